/- weftlaw18.untouched: the bytes that Take gave and the lists that List gave, left as they are till the end, then written over. Conditions: the script can be read and is of small bulk. -/
import Derived.Test.YtgnndggbjipioaaAUnQ
namespace Go.Proofs.Ytgnndggbjipioaa
open Go.RowKit

theorem pks_one {S : Nat → Prop} {w : World} {b c : Nat} {A : Option Addr} {p : Pk} (h : w.heap[b]? = some (.cells #[.int .u32 p.1, .slice A p.2.length c] 48 (0, 0))) (hb : Bts S w A p.2) (hc : p.2.length ≤ c) :
    Pks (fun k => S k ∨ k = b) w (some ⟨b, 0, none⟩) [p] :=
  ⟨by simp, fun _ => ⟨b, 0, rfl, .inr rfl, fun i hi => by
    obtain rfl : i = 0 := by simpa using hi
    exact ⟨A, c, cell_of_heap h, cell_of_heap h, hc, hb.mono' fun _ => .inl⟩⟩⟩

theorem takeS_len {i : Int} {ps : List Pk} (h : ∀ p ∈ ps, p.2.length ≤ 65535) : (takeS i ps).1.2.length ≤ 65535 := by
  unfold takeS
  split
  · exact h _ (List.getElem_mem _)
  · simp

/-- how sizes grow, a name each -/
def sz3 (r : Nat) : Nat := r * 70000
def sz4 (r : Nat) : Nat := r * 300000000
def n4 (r : Nat) : Nat := r * 16388
theorem sz3_zero : sz3 0 = 0 := rfl
theorem sz4_zero : sz4 0 = 0 := rfl
theorem n4_zero : n4 0 = 0 := rfl
theorem sz3_succ (r : Nat) : sz3 (r + 1) = sz3 r + 70000 := Nat.succ_mul _ _
theorem sz4_succ (r : Nat) : sz4 (r + 1) = sz4 r + 300000000 := Nat.succ_mul _ _
theorem n4_succ (r : Nat) : n4 (r + 1) = n4 r + 16388 := Nat.succ_mul _ _
theorem sz3_le {r : Nat} (h : r ≤ 16777216) : sz3 r ≤ 2000000000000 := Nat.le_trans (Nat.mul_le_mul_right _ h) (by decide)
theorem sz4_le {r : Nat} (h : r ≤ 33554432) : sz4 r ≤ 20000000000000000 := Nat.le_trans (Nat.mul_le_mul_right _ h) (by decide)
theorem n4_le {r : Nat} (h : r ≤ 33554432) : n4 r ≤ 1000000000000 := Nat.le_trans (Nat.mul_le_mul_right _ h) (by decide)

/-- ahead of a round of the third loop -/
def InUn3 (qb : List (List UInt8 × Value)) (L pb r : Nat) (wb wr : World) : Prop :=
  Bk (fun i => i < L ∧ ∀ y ∈ qb.take r, y.2.ownBlock ≠ some i) pb (4 * r) (sz3 r) wr ∧ Keeps (fun i => i < L ∧ ∀ y ∈ qb.take r, y.2.ownBlock ≠ some i) wb wr

/-- .. of the fourth -/
def InUn4 (qb : List (List UInt8 × Value)) (es : List (Value × List (Pk × Value) × (Nat → Prop))) (L pb r : Nat) (wb wr : World) : Prop :=
  Bk (fun i => (i < L ∧ ∀ y ∈ qb, y.2.ownBlock ≠ some i) ∧ ∀ e ∈ es.take r, ¬ e.2.2 i) pb (4 * qb.length + n4 r) (sz3 qb.length + sz4 r) wr ∧ Keeps (fun i => (i < L ∧ ∀ y ∈ qb, y.2.ownBlock ≠ some i) ∧ ∀ e ∈ es.take r, ¬ e.2.2 i) wb wr

set_option maxRecDepth 10000 in
set_option maxHeartbeats 16000000 in
theorem untouched_any (w : World) (S : Nat → Prop) (lim : Int) (C : Option Addr) (cc : Nat) (l : List OpD) (hO : Ops S w C l) (hS : ∀ k, S k → k < w.heap.size) (hsl : l.length ≤ 16777216) :
    Calls Try.prog 41 #[.int .i64 lim, .slice C l.length cc] w fun e w' => e = .returned (.bool true) ∧ Old w w' := by
  have hb := both_any w lim
  have hl0 := hO.1
  unfold PostBoth at hb
  by_cases hlm : 1 ≤ lim ∧ lim ≤ 4096
  case neg =>
    simp only [if_neg hlm] at hb
    go_enter Try.func41, Try.ntmps41
    go_wp2_with fail
    refine hb.mono ?_
    rintro e w1 ⟨k1, rfl⟩
    clear hb
    go_wp2
    go_ret
    exact ⟨rfl, k1⟩
  simp only [if_pos hlm] at hb
  go_enter Try.func41, Try.ntmps41
  go_wp2_with fail
  refine hb.mono ?_
  rintro e w4 ⟨k4, gn, gm, H, rfl, hT, hH⟩
  clear hb
  generalize lim.toNat = lm at *
  have hHl := hT.lt
  have HS := hid (show InUn (fun _ => False) w gn gm lm 0 (2 * 0) (.slice none 0 0) (.slice none 0 0) w4 from ⟨H, fun _ => False, [], [], hT, UnL.nil _ _, by simp, by simp, k4, fun k hk => by
    rcases hk with hk | hk
    · exact ⟨hH k hk, hHl k hk, fun h => h, by simp [Value.ownBlock], by simp⟩
    · exact hk.elim⟩)
  clear hT hH k4 hHl hlm
  go_upto_block 0 with fail
  go_cut [8, 9] (fun vA vB wx => ∃ k : Nat, k ≤ l.length ∧ Hid (InUn (fun _ => False) w gn gm lm k (2 * k) vA vB wx))
  case first =>
    go_wp2
    go_loopw [8, 9, 10, 11, 12, 13, 14, 15, 16, 17] (fun vA vB hv v _ _ _ _ _ _ wr => ∃ (k : Nat) (h : Int), v = .int .i64 k ∧ k ≤ l.length ∧ hv = .int .i64 h ∧ Hid (InUn (fun _ => False) w gn gm lm k (2 * k) vA vB wr)) (fun _ _ _ v _ _ _ _ _ _ _ => l.length - (intOf v).toNat)
    case atStart => exact ⟨0, 0, rfl, Nat.zero_le _, rfl, HS⟩
    case round =>
      clear HS
      obtain ⟨k, h, rfl, hk, rfl, hin⟩ := hrel
      have i0 : (0 : Int) ≤ (k : Int) := by omega
      by_cases hlt : k < l.length
      · have i1 : (k : Int) < (l.length : Int) := by omega
        go_upto_block 1 with fail
        go_cut [8, 9, 10] (fun vA vB hv wx => (∃ h : Int, hv = .int .i64 h) ∧ Hid (InUn (fun _ => False) w gn gm lm (k + 1) (2 * (k + 1)) vA vB wx))
        case rest =>
          obtain ⟨⟨h2, rfl⟩, hin3⟩ := hcut
          clear hin
          go_wp2
          exact ⟨⟨k + 1, h2, by go_num, by omega, rfl, hin3⟩, by simp [intOf]; omega⟩
        obtain ⟨H, FB, qb, es, hT, hU, hl, hl2, hold, hX⟩ := hin.out
        obtain ⟨b, off, A1, c1, rfl, hSb, h0, h1, h2, h3, h4, h5, h6⟩ := hO.at_ (j := k) hlt
        generalize l[k] = x at *
        obtain ⟨kd, hkd⟩ : ∃ kd, kd = x.kind := ⟨_, rfl⟩
        rw [← hkd] at h0
        have HKD := hid hkd
        clear hkd
        replace h0 := ((hold.old S).cell (lt_of_cell h0) hSb).trans h0
        replace h1 := ((hold.old S).cell (lt_of_cell h1) hSb).trans h1
        replace h2 := ((hold.old S).cell (lt_of_cell h2) hSb).trans h2
        replace h3 := ((hold.old S).cell (lt_of_cell h3) hSb).trans h3
        replace h4 := ((hold.old S).cell (lt_of_cell h4) hSb).trans h4
        obtain ⟨go, hgo⟩ : ∃ g, g = wr.heap.size := ⟨_, rfl⟩
        obtain ⟨wa, hA⟩ : ∃ wa, wa = wr.alloc (.cells #[.int .i64 kd, .slice A1 x.sents.length c1, .int .i64 x.i, .int .i64 x.at_, .int .u8 x.mask.toNat] 36) := ⟨_, rfl⟩
        have ka : Old wr wa := by rw [hA]; exact (Keeps.refl _ _).alloc _
        have hba : wa.heap[go]? = some (.cells #[.int .i64 kd, .slice A1 x.sents.length c1, .int .i64 x.i, .int .i64 x.at_, .int .u8 x.mask.toNat] 36 (0, 0)) := by rw [hA, hgo]; exact heap_alloc_new _ _
        have hza : wa.heap.size = go + 1 := by rw [hA, hgo]; simp
        have HU := hid (show Twin H wa gn gm lm ∧ UnL w.heap.size FB wa u8 u9 qb es ∧ Old w wa ∧ (∀ i, H i ∨ i = go → w.heap.size ≤ i ∧ i < wa.heap.size ∧ ¬ FB i ∧ u8.ownBlock ≠ some i ∧ ∀ e ∈ es, ¬ e.2.2 i) ∧ (∀ i, i = go → ¬ H i) from by
          have hz := hold.size
          refine ⟨hT.keep (ka.old _), hU.keep (ka.old _), hold.trans' ka, fun i hi => ?_, fun i hi hh => by have := hT.lt i hh; omega⟩
          rcases hi with hi | rfl
          · obtain ⟨x0, x1, x2⟩ := hX i (.inl hi)
            exact ⟨x0, by omega, x2⟩
          · exact ⟨by omega, by omega, fun hf => by have := (hU.fb _ hf).2.1; omega, fun e => by have := own_lt hU.rowA e; omega, fun e he hf => by have := ((hU.each e he).2.2.2 _ hf).2.1; omega⟩)
        have y0 : wa.cell? ⟨go, 0, none⟩ = some (.int .i64 kd) := cell_of_heap hba
        have HOP := hid (And.intro h5 (h6.keep ((hold.trans' ka).old _)))
        have HGO := hid (And.intro (show w.heap.size ≤ go by rw [hgo]; exact hold.size) (And.intro hza ((hold.trans' ka).old (fun _ => True))))
        clear hT hU hold hX hin h5 h6
        go_upto_region 11 with fail
        rw [← hA, ← hgo]
        clear hA hgo h0 h1 h2 h3 h4 hza ka
        go_upto_if 50 with fail
        go_cut [9] (fun vB wx => wx.heap[go]? = some (.cells #[.int .i64 kd, .slice A1 x.sents.length c1, .int .i64 x.i, .int .i64 x.at_, .int .u8 x.mask.toNat] 36 (0, 0)) ∧ Hid (InUn (fun i => i = go) w gn gm lm (k + 1) (2 * k) u8 vB wx))
        case first =>
          by_cases hk2 : kd = 2
          · subst hk2
            obtain ⟨hT, hU, hold, hX, hGH⟩ := HU.out
            obtain ⟨F, Gm, Ln, Lm, q, r, hN, hR, hqr, hFG, hFH, hGmH, hHlt⟩ := hT
            have y2 : wa.cell? ⟨go, 2, none⟩ = some (.int .i64 x.i) := cell_of_heap hba
            have hgF : ¬ F go := fun h => hGH go rfl (hFH go h)
            have hgG : ¬ Gm go := fun h => hGH go rfl (hGmH go h)
            have hGlt := hR.lt
            have htk := utake_any wa F gn lm Ln q x.i hN
            unfold PostUTake at htk
            have hlenT := takeS_len (i := x.i) (ps := q.map (·.1)) fun p hp => by obtain ⟨y, hy, rfl⟩ := List.mem_map.1 hp; exact hN.len y hy
            generalize hTk : takeS x.i (q.map (·.1)) = T at *
            obtain ⟨⟨t, bs⟩, er, ps'⟩ := T
            have HTk := hid hTk
            have HQ := hid hqr
            have HL := hid hlenT
            have HZ := hid (And.intro hU (And.intro hold (And.intro hX hGH)))
            clear hTk hqr hU hold hX hGH hlenT
            go_wp2_with fail
            refine htk.mono ?_
            rintro e w1 ⟨F', G1, L', q', v1, rfl, hN1, hq1, ho1, hF', hG1, hFG1, K1⟩
            clear htk
            obtain ⟨A2, c2, rfl, hc2, _⟩ := ho1.slice
            simp only at hq1 ho1 hc2 ⊢
            have hb1 := K1.heap hba hgF
            have z0 : w1.cell? ⟨go, 2, none⟩ = some (.int .i64 x.i) := cell_of_heap hb1
            obtain ⟨g1, hg1⟩ : ∃ g, g = w1.heap.size := ⟨_, rfl⟩
            obtain ⟨w2, hW2⟩ : ∃ W, W = w1.alloc (.cells #[.int .u32 t, .slice A2 bs.length c2] 48) := ⟨_, rfl⟩
            have k1 : Old w1 w2 := by rw [hW2]; exact (Keeps.refl _ _).alloc _
            have hs1 : w2.heap[g1]? = some (.cells #[.int .u32 t, .slice A2 bs.length c2] 48 (0, 0)) := by rw [hW2, hg1]; exact heap_alloc_new _ _
            have hz1 := K1.size
            have hgm1 : ¬ Gm g1 := fun h => by have := hGlt _ h; omega
            have hrt := rtake_any w2 Gm gm lm Lm r x.i ((hR.keep (K1.mono fun k _ h hf => hFG k hf h)).keep (k1.old _))
            unfold PostRTake at hrt
            rw [← HQ.out, HTk.out] at hrt
            have z2 : w2.cell? ⟨go, 2, none⟩ = some (.int .i64 x.i) := cell_of_heap (k1.heap hb1 trivial)
            go_upto_region 13 with fail
            rw [← hW2, ← hg1]
            have HG1 := hid hg1
            clear hW2 hg1 z0 y2
            go_wp2_with fail
            refine hrt.mono ?_
            rintro e w3 ⟨G', G2, M', r', v2, rfl, hR2, hq2, ho2, hG', hG2, _, K2⟩
            clear hrt
            obtain ⟨A3, c3, rfl, hc3, _⟩ := ho2.slice
            simp only at hq2 ho2 hc3 ⊢
            have hs3 := K2.heap hs1 hgm1
            obtain ⟨g2, hg2⟩ : ∃ g, g = w3.heap.size := ⟨_, rfl⟩
            obtain ⟨w4, hW4⟩ : ∃ W, W = w3.alloc (.cells #[.int .u32 t, .slice A3 bs.length c3] 48) := ⟨_, rfl⟩
            have k3 : Old w3 w4 := by rw [hW4]; exact (Keeps.refl _ _).alloc _
            have hs4 : w4.heap[g2]? = some (.cells #[.int .u32 t, .slice A3 bs.length c3] 48 (0, 0)) := by rw [hW4, hg2]; exact heap_alloc_new _ _
            have hs4' := k3.heap hs3 trivial
            have hbt1 : Bts G1 w4 A2 bs := ho1.bts.keep ((((k1.old (fun k => ¬ Gm k)).trans' K2).trans' (k3.old _)).mono fun k _ hg => hFG k (hG1 k hg))
            have hbt2 : Bts G2 w4 A3 bs := ho2.bts.keep (k3.old _)
            have HB2 := hid (And.intro hbt1 (And.intro hbt2 (And.intro hc2 hc3)))
            have hb4 := k3.heap (K2.heap (k1.heap hb1 trivial) hgG) trivial
            go_upto_region 14 with fail
            rw [← hW4, ← hg2]
            clear hW4 hg2 hbt1 hbt2 hs3 hs1
            have u0 : w4.cell? ⟨g1, 0, none⟩ = some (.int .u32 t) := cell_of_heap hs4'
            have u1 : w4.cell? ⟨g1, 1, none⟩ = some (.slice A2 bs.length c2) := cell_of_heap hs4'
            have u2 : ∀ o, (w4.alloc o).cell? ⟨g2, 0, none⟩ = some (.int .u32 t) := fun o => cell_of_heap (((Keeps.refl (fun _ => True) w4).alloc o).heap hs4 trivial)
            have u3 : ∀ o, (w4.alloc o).cell? ⟨g2, 1, none⟩ = some (.slice A3 bs.length c3) := fun o => cell_of_heap (((Keeps.refl (fun _ => True) w4).alloc o).heap hs4 trivial)
            obtain ⟨hbt1, hbt2, hc2, hc3⟩ := HB2.out
            have k5 : Old w4 ((w4.alloc (.cells #[.int .u32 t, .slice A2 bs.length c2] 48)).alloc (.cells #[.int .u32 t, .slice A3 bs.length c3] 48)) := ((Keeps.refl _ _).alloc _).alloc _
            have hsm := sents_any ((w4.alloc (.cells #[.int .u32 t, .slice A2 bs.length c2] 48)).alloc (.cells #[.int .u32 t, .slice A3 bs.length c3] 48)) _ _ (some ⟨w4.heap.size, 0, none⟩) (some ⟨w4.heap.size + 1, 0, none⟩) 1 1 [(t, bs)] [(t, bs)] (pks_one (p := (t, bs)) (alloc_lt (by simp) (heap_alloc_new _ _)) (hbt1.keep (k5.old _)) hc2) (pks_one (p := (t, bs)) (alloc_at (by simp)) (hbt2.keep (k5.old _)) hc3)
            rw [decide_eq_true (show [(t, bs)] = [(t, bs)] from rfl)] at hsm
            have HK5 := hid k5
            clear hbt1 hbt2 hc2 hc3 k5
            go_wp2_with fail
            refine hsm.mono ?_
            rintro e w6 ⟨rfl, nd, hw6⟩
            have k6 : Old w4 w6 := by rw [← hw6]; exact HK5.out.drewN nd
            clear hsm hw6 u0 u1 u2 u3
            have hs6 := k6.heap hs4' trivial
            have v1 : w6.cell? ⟨g1, 1, none⟩ = some (.slice A2 bs.length c2) := cell_of_heap hs6
            obtain ⟨hU, hold, hX, hGH⟩ := HZ.out
            obtain ⟨AB, cB, hvB, _, _⟩ := own_slice hU.rowB
            subst hvB
            obtain ⟨W7, hW7⟩ : ∃ W, W = w6.alloc (.cells #[.slice A2 bs.length c2] 46) := ⟨_, rfl⟩
            have k7 : Old w6 W7 := by rw [hW7]; exact (Keeps.refl _ _).alloc _
            have hb7 : W7.heap[w6.heap.size]? = some (.cells #[.slice A2 bs.length c2] 46 (0, 0)) := by rw [hW7]; exact heap_alloc_new _ _
            have k37 := (k3.trans' k6).trans' k7
            have KB : Keeps FB wa W7 := (((K1.mono fun i _ (h : FB i) hf => (hX i (.inl (hFH i hf))).2.2.1 h).trans' (k1.old _)).trans (K2.mono fun i _ (h : FB i) hf => (hX i (.inl (hGmH i hf))).2.2.1 h) fun _ _ h => h).trans' (k37.old _)
            have hrow := own_keeps hU.rowB KB (fun i hi => hU.footB i hi)
            have hlen := HL.out
            go_wp2_with (at_builtin; rw [← hW7]; refine wpList_append_ex _ (by rfl) _ _ 60 46 (by rfl) Try.underlying60 info46 (by rfl) (by omega) (by rfl) hrow (some ⟨w6.heap.size, 0, none⟩) 1 1 [.slice A2 bs.length c2] (by rfl) (by rfl) (fun _ => ⟨_, rfl, World.news_of_block hb7⟩) (one_one rfl) (by omega) (by unfold maxLen; omega) ?_; intro v8 w8 hown8 hgrow8 hat8)
            obtain ⟨A8, c8, hv8, _, _⟩ := own_slice hown8
            subst hv8
            obtain ⟨hR1, hR9⟩ := InUn.take (G := fun i => i = go) (n := k) hU hl hl2 hold hX hGH hN hR hFG hFH hGmH hN1 ho1 hF' hG1 hFG1 K1 k1 hR2 hG' K2 (hq1.trans hq2.symm) hlen k37 hown8 hgrow8 hat8
            have HR := hid hR1
            have hb9 := hR9.heap hba rfl
            clear hR1 hR9 hU hold hX hGH hN hR hN1 ho1 hR2 ho2 hown8 hgrow8 hat8 hrow KB K1 k1 K2 k3 k6 k7 k37 hb7 v1 hs6 hs4 hs4' hb4 hb1 HB2 HK5
            go_wp2
            go_meet
            exact ⟨hb9, HR⟩
          · have b2 : (kd == 2) = false := beq_eq_false_iff_ne.2 hk2
            obtain ⟨hT, hU, hold, hX, hGH⟩ := HU.out
            have hpl := plays_any wa H S gn gm lm kd x.i x.at_ x.mask A1 c1 x.sents hT HOP.out.2 (fun i hi => ⟨by have := hS i hi; have := hold.size; omega, fun hh => by have := hX i (.inl hh); have := hS i hi; omega⟩)
            have y1 : wa.cell? ⟨go, 1, none⟩ = some (.slice A1 x.sents.length c1) := cell_of_heap hba
            have y2 : wa.cell? ⟨go, 2, none⟩ = some (.int .i64 x.i) := cell_of_heap hba
            have y3 : wa.cell? ⟨go, 3, none⟩ = some (.int .i64 x.at_) := cell_of_heap hba
            have y4 : wa.cell? ⟨go, 4, none⟩ = some (.int .u8 x.mask.toNat) := cell_of_heap hba
            have HZ := hid (And.intro hU (And.intro hold (And.intro hX hGH)))
            clear hT hU hold hX hGH
            go_wp2_with fail
            refine hpl.mono ?_
            rintro e w9 hpo
            obtain rfl := hpo.1
            obtain ⟨hU, hold, hX, hGH⟩ := HZ.out
            obtain ⟨hR1, hR2⟩ := InUn.plays (n := k + 1) hU (by omega) hl2 hold hX hpo hGH
            have HR := hid hR1
            have hb9 := hR2.heap hba rfl
            clear hR1 hR2 hpo hU hold hX hGH hpl y1 y2 y3 y4
            go_wp2
            go_meet
            exact ⟨hb9, HR⟩
        case rest =>
        obtain ⟨hb9, hin2⟩ := hcut
        obtain ⟨wb, hwb⟩ : ∃ W, W = wc := ⟨_, rfl⟩
        subst hwb
        clear hba y0
        have y0 : wb.cell? ⟨go, 0, none⟩ = some (.int .i64 kd) := cell_of_heap hb9
        go_upto_region 19 with fail
        go_cut [87] (fun v wx => ∃ t : Bool, v = .bool t ∧ wx = wb)
        case first =>
          by_cases h6 : kd = 6
          · subst h6
            by_cases hh : h < 4000000
            · go_wp2
              go_meet
              exact ⟨_, rfl, rfl⟩
            · go_wp2
              go_meet
              exact ⟨_, rfl, rfl⟩
          · have b6 : (kd == 6) = false := beq_eq_false_iff_ne.2 h6
            go_wp2
            go_meet
            exact ⟨_, rfl, rfl⟩
        case rest =>
        obtain ⟨t, rfl, rfl⟩ := hcut
        go_upto_if 87 with fail
        cases t with
        | false =>
          have HR := hid (hin2.out.more (n' := k + 1) (m' := 2 * (k + 1)) (G' := fun _ => False) (Keeps.refl _ _) (by omega) (by omega) fun _ h => h.elim)
          go_wp2
          go_meet
          exact ⟨⟨h, rfl⟩, HR⟩
        | true =>
          obtain ⟨H, FB, qb, es, hT, hU, hl, hl2, hold, hX⟩ := hin2.out
          obtain ⟨F, Gm, Ln, Lm, q, r, hN, _, _, _, _, _, _⟩ := id hT
          have hli := ulist_any wc F gn lm Ln q hN
          have hq0 : q.length ≤ 4096 := by have := hN.room; have := hN.most; omega
          have hql := hN.len
          go_wp2_with fail
          refine hli.mono ?_
          rintro e w1 ⟨v1, q1, rfl, hf1, hq1, k1⟩
          clear hli
          obtain ⟨B1, d1, rfl, _, _⟩ := own_slice hf1.row
          have hli := ulist_any w1 F gn lm Ln q (hN.keep (k1.old _))
          go_wp2_with fail
          refine hli.mono ?_
          rintro e w2 ⟨v2, q2, rfl, hf2, hq2, k2⟩
          clear hli
          obtain ⟨B2, d2, rfl, _, _⟩ := own_slice hf2.row
          have hn1 : q1.length ≤ 4096 := by have e := congrArg List.length hq1; simp at e; omega
          have hn2 : q2.length ≤ 4096 := by have e := congrArg List.length hq2; simp at e; omega
          have hsz : ∀ {q' : List (Pk × Value)}, q'.map (·.1) = q.map (·.1) → ∀ x ∈ q', x.1.2.length ≤ 65535 := fun he x hx => by
            have hm : x.1 ∈ q.map (·.1) := by rw [← he]; exact List.mem_map.2 ⟨x, hx, rfl⟩
            obtain ⟨y, hy, e⟩ := List.mem_map.1 hm
            rw [← e]
            exact hql y hy
          obtain ⟨AA, cA, hvA, _, _⟩ := own_slice hU.rowA
          subst hvA
          obtain ⟨W3, hW3⟩ : ∃ W, W = w2.alloc (.cells #[.slice B1 q1.length d1, .slice B2 q2.length d2] 34) := ⟨_, rfl⟩
          have k3 : Old w2 W3 := by rw [hW3]; exact (Keeps.refl _ _).alloc _
          have hb3 : W3.heap[w2.heap.size]? = some (.cells #[.slice B1 q1.length d1, .slice B2 q2.length d2] 34 (0, 0)) := by rw [hW3]; exact heap_alloc_new _ _
          have hrow := own_keeps hU.rowA ((k1.trans' k2).trans' k3) (fun _ _ => trivial)
          have hs1 := hsz hq1
          have hs2 := hsz hq2
          clear hsz hql hq1 hq2 hq0
          go_upto_region 21 with (at_builtin; rw [← hW3]; refine wpList_append_ex _ (by rfl) _ _ 61 34 (by rfl) Try.underlying61 info34 (by rfl) (by omega) (by rfl) hrow (some ⟨w2.heap.size, 0, none⟩) 2 2 [.slice B1 q1.length d1, .slice B2 q2.length d2] (by rfl) (by rfl) (fun _ => ⟨_, rfl, World.news_of_block hb3⟩) (by intro u hu; simp at hu; rcases hu with rfl | rfl <;> rfl) (by omega) (by unfold maxLen; omega) ?_; intro v8 w8 hown8 hgrow8 hat8)
          obtain ⟨A8, c8, hv8, _, _⟩ := own_slice hown8
          subst hv8
          obtain ⟨hR1, hR2, F2, hR3⟩ := InUn.lists (G := fun i => i = go) hT hU hl hl2 hold hX hf1 k1 hf2 k2 hn1 hn2 hs1 hs2 k3 hown8 hgrow8 hat8
          have HR := hid hR1
          obtain ⟨gA, cA2, hvv, _, _, hcl⟩ := own_cells hown8 (by omega)
          injection hvv with hAA _ hcA
          subst hAA hcA
          have hlast : w8.cell? ⟨gA, es.length + 1, none⟩ = some (.slice B2 q2.length d2) := by rw [hcl _ (by omega)]; simp
          have HF := hid hR3
          have HS8 := hid (Keeps.refl (fun _ => True) w8)
          clear hR1 hR2 hR3 hT hU hold hX hN hf1 hf2 k1 k2 k3 hown8 hgrow8 hat8 hrow hb3 hcl hn1 hs1 hs2 hin2
          go_wp2
          go_loopw [10, 17] (fun hv v wr => ∃ (r : Nat) (h : Int), v = .int .i64 r ∧ r ≤ q2.length ∧ hv = .int .i64 h ∧ Hid (Old w8 wr)) (fun _ v _ => q2.length - (intOf v).toNat)
          case atStart => exact ⟨0, h, rfl, Nat.zero_le _, rfl, HS8⟩
          case round =>
            clear HS8
            obtain ⟨r, h3, rfl, hr, rfl, hk⟩ := hrel
            have j0 : (0 : Int) ≤ (r : Int) := by omega
            have hlast' := (hk.out.cell (lt_of_cell hlast) trivial).trans hlast
            by_cases hlt2 : r < q2.length
            · have j1 : (r : Int) < (q2.length : Int) := by omega
              obtain ⟨bq, cq, Aq, cq2, hvq, _, _, _, _, _, hcq, _, _⟩ := (HF.out.keep (hk.out.old _)).at_ hlt2
              injection hvq with hB2 _ hd2
              subst hB2 hd2
              go_wp2
              exact ⟨⟨r + 1, _, by go_num, by omega, rfl, hid hk.out⟩, by simp [intOf]; omega⟩
            · have j1 : ¬ (r : Int) < (q2.length : Int) := by omega
              have HR2 := hid (HR.out.more (n' := k + 1) (m' := 2 * (k + 1)) (G' := fun _ => False) hk.out (by omega) (by omega) fun _ h => h.elim)
              go_wp2
              go_meet
              exact ⟨⟨h3, rfl⟩, HR2⟩
      · have i1 : ¬ (k : Int) < (l.length : Int) := by omega
        go_wp2
        go_meet
        exact ⟨k, hk, hin⟩
  case rest =>
  obtain ⟨k, hk, hin⟩ := hcut
  obtain ⟨wb0, hwb0⟩ : ∃ W, W = wc := ⟨_, rfl⟩
  subst hwb0
  obtain ⟨H, FB, qa, es, hP, hU, hql, hel, hold, hX⟩ := hin.out
  clear hin HS
  obtain ⟨AA, cA, hvA, _, _⟩ := own_slice hU.rowB
  subst hvA
  obtain ⟨AR, cR, hvR, _, _⟩ := own_slice hU.rowA
  subst hvR
  obtain ⟨pb, hpb⟩ : ∃ pb, pb = wb0.heap.size := ⟨_, rfl⟩
  obtain ⟨W6, hW6⟩ : ∃ W, W = wb0.alloc (.cells #[.slice none 0 0, .slice none 0 0, .int .i64 0, .slice none 0 0] 63) := ⟨_, rfl⟩
  have k6 : Old wb0 W6 := by rw [hW6]; exact (Keeps.refl _ _).alloc _
  have hBk : Bk (fun i => i < wb0.heap.size) pb 0 0 W6 := by rw [hW6, hpb]; exact Bk.new _ fun _ h => h
  have hU6 := hU.keep (k6.old _)
  have hP6 := hP.keep (k6.old _)
  have hO6 := hold.trans' k6
  have hz := hold.size
  -- what is not of a kind is left alone
  have hFq : ∀ i, FB i ∨ H i ∨ (Value.slice AR es.length cR).ownBlock = some i ∨ (∃ e ∈ es, e.2.2 i) ∨ i < w.heap.size → i < wb0.heap.size := fun i hi => by
    rcases hi with h | h | h | ⟨e, he, h⟩ | h
    · exact (hU.fb i h).2.1
    · exact hP.lt i h
    · exact own_lt hU.rowA h
    · exact ((hU.each e he).2.2.2 i h).2.1
    · omega
  have hNq : ∀ i, (H i ∨ (Value.slice AR es.length cR).ownBlock = some i ∨ (∃ e ∈ es, e.2.2 i) ∨ i < w.heap.size) → ∀ y ∈ qa, y.2.ownBlock ≠ some i := fun i hi y hy e => by
    have hf := (hU.ownB y hy).foot i e
    rcases hi with h | h | ⟨e', he, h⟩ | h
    · exact (hX i (.inl h)).2.2.1 hf
    · exact (hU.fb i hf).2.2 h
    · exact ((hU.each e' he).2.2.2 i h).2.2.1 hf
    · have := (hU.fb i hf).1; omega
  have hAq : ∀ i, (Value.slice AA qa.length cA).ownBlock = some i → i < wb0.heap.size ∧ ∀ y ∈ qa, y.2.ownBlock ≠ some i := fun i hi => ⟨own_lt hU.rowB hi, fun y hy e => own_ne (hU.ownB y hy).row hU.rowB (by decide) e hi⟩
  have HS3 := hid (show InUn3 qa wb0.heap.size pb 0 W6 W6 from ⟨(hBk.less fun i hi => hi.1).more (by omega) (by rw [sz3_zero]; omega), Keeps.refl _ _⟩)
  have HB := hid (And.intro hU6 (And.intro hP6 (And.intro hO6 (And.intro hX (And.intro hFq (And.intro hNq (And.intro hAq hz)))))))
  have iql : qa.length ≤ 16777216 := by omega
  have iel : es.length ≤ 33554432 := by omega
  clear hU hP hX hold hBk hU6 hP6 hO6 hFq hNq hAq k6 hz hql hel
  go_upto_region 26 with fail
  rw [← hW6, ← hpb]
  have HPB := hid hpb
  clear hW6 hpb
  go_upto_block 4 with fail
  go_cut [] (fun wx => Hid (InUn3 qa wb0.heap.size pb qa.length W6 wx))
  case first =>
    go_wp2
    go_loopw [19] (fun v wr => ∃ r : Nat, v = .int .i64 r ∧ r ≤ qa.length ∧ Hid (InUn3 qa wb0.heap.size pb r W6 wr)) (fun v _ => qa.length - (intOf v).toNat)
    case atStart => exact ⟨0, rfl, Nat.zero_le _, HS3⟩
    case round =>
      clear HS3
      obtain ⟨r, rfl, hr, hin⟩ := hrel
      have i0 : (0 : Int) ≤ (r : Int) := by omega
      by_cases hlt : r < qa.length
      · have i1 : (r : Int) < (qa.length : Int) := by omega
        obtain ⟨hBk, hkk⟩ := hin.out
        obtain ⟨hU6, hP6, hO6, hX, hFq, hNq, hAq, hz⟩ := HB.out
        have hsub : ∀ i, (i < wb0.heap.size ∧ ∀ y ∈ qa, y.2.ownBlock ≠ some i) → (i < wb0.heap.size ∧ ∀ y ∈ qa.take r, y.2.ownBlock ≠ some i) := fun i h => ⟨h.1, fun y hy => h.2 y (List.mem_of_mem_take hy)⟩
        have hrow := own_keeps hU6.rowB hkk fun i hi => hsub i (hAq i hi)
        obtain ⟨gA, cA2, hvv, _, _, hcl⟩ := own_cells hrow (by omega)
        injection hvv with hAA _ hcA
        subst hAA hcA
        have hcell : wr.cell? ⟨gA, r, none⟩ = some qa[r].2 := by rw [hcl r (by omega), List.getElem?_map, List.getElem?_eq_getElem hlt]; rfl
        have hown := hU6.ownB _ (List.getElem_mem hlt)
        have hdis := List.pairwise_iff_getElem.1 hU6.disB
        have hgr : ∀ i, qa[r].2.ownBlock = some i → i < wb0.heap.size ∧ ∀ y ∈ qa.take r, y.2.ownBlock ≠ some i := fun i hi => ⟨(hFq i (.inl (hown.foot i hi))), fun y hy e => by
          obtain ⟨a, ha, rfl⟩ := List.getElem_of_mem hy
          rw [List.length_take] at ha
          rw [List.getElem_take] at e
          exact hdis a r (by omega) hlt (by omega) i e hi⟩
        have hown2 := hown.own_.keep (hkk.mono fun i _ hi => hgr i hi)
        have hlq := hU6.lens _ (List.getElem_mem hlt)
        have hsz := sz3_le (r := r) (by omega)
        have hk5 := keep_bk hBk (by omega) (by omega) (KeepR.ofOwn hown2 hgr) (by omega)
        obtain ⟨Aq, cq, hvq, _, _⟩ := hown.slice
        rw [hvq] at hcell hk5
        have HQ := hid (And.intro hvq (And.intro hlq hsz))
        have HIN := hid hkk
        clear hBk hkk hU6 hP6 hO6 hX hFq hNq hAq hz hrow hcl hown hdis hgr hown2 hsub hin hvq hlq hsz
        go_wp2_with fail
        refine hk5.mono ?_
        rintro e w7 ⟨rfl, hB7, k7⟩
        clear hk5
        have HR := hid (show InUn3 qa wb0.heap.size pb (r + 1) W6 w7 from by
          obtain ⟨hvq, hlq, hsz⟩ := HQ.out
          have hkk := HIN.out
          rw [← hvq] at hB7 k7
          have hs : ∀ i, (i < wb0.heap.size ∧ ∀ y ∈ qa.take (r + 1), y.2.ownBlock ≠ some i) → (i < wb0.heap.size ∧ ∀ y ∈ qa.take r, y.2.ownBlock ≠ some i) ∧ qa[r].2.ownBlock ≠ some i := fun i hi => ⟨⟨hi.1, fun y hy => hi.2 y (List.take_subset_take_left qa (by omega) hy)⟩, hi.2 qa[r] (by rw [List.take_succ_eq_append_getElem hlt]; exact List.mem_append_right _ (List.mem_singleton.2 rfl))⟩
          exact ⟨(hB7.less hs).more (by first | omega | (rw [n4_succ]; omega)) (by first | (rw [sz3_succ]; omega) | (rw [sz4_succ]; omega)), (hkk.mono fun i _ hi => (hs i hi).1).trans' (k7.mono fun i _ hi => hs i hi)⟩)
        clear hB7 k7
        go_wp2
        exact ⟨⟨r + 1, by go_num, by omega, HR⟩, by simp [intOf]; omega⟩
      · obtain rfl : r = qa.length := by omega
        have i1 : ¬ ((qa.length : Nat) : Int) < (qa.length : Int) := by omega
        go_wp2
        go_meet
        exact hin
  case rest =>
  have hin3 := hcut.out
  clear hcut HS3
  obtain ⟨hBk, hkk⟩ := hin3
  have HS4 := hid (show InUn4 qa es wb0.heap.size pb 0 wc wc from by
    refine ⟨(hBk.less fun i hi => ⟨hi.1.1, fun y hy => hi.1.2 y (List.mem_of_mem_take hy)⟩).more (by rw [n4_zero]; omega) (by rw [sz4_zero]; omega), Keeps.refl _ _⟩)
  have HK3 := hid (hkk.mono fun i _ (h : i < wb0.heap.size ∧ ∀ y ∈ qa, y.2.ownBlock ≠ some i) => (⟨h.1, fun y hy => h.2 y (List.mem_of_mem_take hy)⟩ : i < wb0.heap.size ∧ ∀ y ∈ qa.take qa.length, y.2.ownBlock ≠ some i))
  clear hBk hkk
  go_upto_block 6 with fail
  go_cut [] (fun wx => Hid (InUn4 qa es wb0.heap.size pb es.length wc wx))
  case first =>
    go_wp2
    go_loopw [20] (fun v wr => ∃ r : Nat, v = .int .i64 r ∧ r ≤ es.length ∧ Hid (InUn4 qa es wb0.heap.size pb r wc wr)) (fun v _ => es.length - (intOf v).toNat)
    case atStart => exact ⟨0, rfl, Nat.zero_le _, HS4⟩
    case round =>
      clear HS4
      obtain ⟨r, rfl, hr, hin⟩ := hrel
      have i0 : (0 : Int) ≤ (r : Int) := by omega
      by_cases hlt : r < es.length
      · have i1 : (r : Int) < (es.length : Int) := by omega
        obtain ⟨hBk, hkk⟩ := hin.out
        obtain ⟨hU6, hP6, hO6, hX, hFq, hNq, hAq, hz⟩ := HB.out
        have KK := (HK3.out.mono fun i _ (h : (i < wb0.heap.size ∧ ∀ y ∈ qa, y.2.ownBlock ≠ some i) ∧ ∀ e ∈ es.take r, ¬ e.2.2 i) => h.1).trans' hkk
        have hrow := own_keeps hU6.rowA KK fun i hi => ⟨⟨hFq i (.inr (.inr (.inl hi))), hNq i (.inr (.inl hi))⟩, fun e he hf => ((hU6.each e (List.mem_of_mem_take he)).2.2.2 i hf).2.2.2 hi⟩
        obtain ⟨gR, cR2, hvv, _, _, hcl⟩ := own_cells hrow (by omega)
        injection hvv with hAR _ hcR
        subst hAR hcR
        have hcell : wr.cell? ⟨gR, r, none⟩ = some es[r].1 := by rw [hcl r (by omega), List.getElem?_map, List.getElem?_eq_getElem hlt]; rfl
        have hme := List.getElem_mem hlt
        obtain ⟨hown, hq1, hq2, hq3⟩ := hU6.each _ hme
        have hdis := List.pairwise_iff_getElem.1 hU6.dis
        have hgr : ∀ i, es[r].2.2 i → (i < wb0.heap.size ∧ ∀ y ∈ qa, y.2.ownBlock ≠ some i) ∧ ∀ e ∈ es.take r, ¬ e.2.2 i := fun i hi => ⟨⟨hFq i (.inr (.inr (.inr (.inl ⟨_, hme, hi⟩)))), hNq i (.inr (.inr (.inl ⟨_, hme, hi⟩)))⟩, fun e he hf => by
          obtain ⟨a, ha, rfl⟩ := List.getElem_of_mem he
          rw [List.length_take] at ha
          rw [List.getElem_take] at hf
          exact hdis a r (by omega) hlt (by omega) i hf hi⟩
        have hown2 := hown.keep (KK.mono fun i _ hi => hgr i hi)
        have hsum := keepSum_le' (q := es[r].2.1) (B := 65535) hq2
        have hprod : es[r].2.1.length * (65535 + 400) ≤ 270069760 := Nat.le_trans (Nat.mul_le_mul_right _ hq1) (by decide)
        have hsum := Nat.le_trans hsum hprod
        have hsz := sz4_le (r := r) (by omega)
        have hsz2 := sz3_le (r := qa.length) (by omega)
        have hn4 := n4_le (r := r) (by omega)
        have hk5 := keepL_bk hBk (by omega) (by omega) hown2 hgr (by omega) (fun y hy => by have := hq2 y hy; omega) (by omega)
        obtain ⟨Aq, cq, hvq, _, _⟩ := own_slice hown.row
        rw [hvq] at hcell hk5
        have HQ := hid (And.intro hq1 (And.intro hsum (And.intro hprod (And.intro hsz hsz2))))
        have HIN := hid hkk
        clear hBk hkk hU6 hP6 hO6 hX hFq hNq hAq hz hrow hcl hown hdis hgr hown2 hin hvq hq1 hq2 hq3 hsum hprod hsz hsz2 hn4 hme KK
        go_wp2_with fail
        refine hk5.mono ?_
        rintro e w7 ⟨rfl, hB7, k7⟩
        clear hk5
        have HR := hid (show InUn4 qa es wb0.heap.size pb (r + 1) wc w7 from by
          obtain ⟨hq1, hsum, hprod, hsz, hsz2⟩ := HQ.out
          have hkk := HIN.out
          have hs : ∀ i, ((i < wb0.heap.size ∧ ∀ y ∈ qa, y.2.ownBlock ≠ some i) ∧ ∀ e ∈ es.take (r + 1), ¬ e.2.2 i) → ((i < wb0.heap.size ∧ ∀ y ∈ qa, y.2.ownBlock ≠ some i) ∧ ∀ e ∈ es.take r, ¬ e.2.2 i) ∧ ¬ es[r].2.2 i := fun i hi => ⟨⟨hi.1, fun e he => hi.2 e (List.take_subset_take_left es (by omega) he)⟩, hi.2 es[r] (by rw [List.take_succ_eq_append_getElem hlt]; exact List.mem_append_right _ (List.mem_singleton.2 rfl))⟩
          exact ⟨(hB7.less hs).more (by first | omega | (rw [n4_succ]; omega)) (by first | (rw [sz3_succ]; omega) | (rw [sz4_succ]; omega)), (hkk.mono fun i _ hi => (hs i hi).1).trans' (k7.mono fun i _ hi => hs i hi)⟩)
        clear hB7 k7
        go_wp2
        exact ⟨⟨r + 1, by go_num, by omega, HR⟩, by simp [intOf]; omega⟩
      · obtain rfl : r = es.length := by omega
        have i1 : ¬ ((es.length : Nat) : Int) < (es.length : Int) := by omega
        go_wp2
        go_meet
        exact hin
  case rest =>
  obtain ⟨hBk, hkk⟩ := hcut.out
  clear hcut HS4
  rw [List.take_length] at hBk hkk
  obtain ⟨hU6, hP6, hO6, hX, hFq, hNq, hAq, hz⟩ := HB.out
  have KK := (HK3.out.mono fun i _ (h : (i < wb0.heap.size ∧ ∀ y ∈ qa, y.2.ownBlock ≠ some i) ∧ ∀ e ∈ es, ¬ e.2.2 i) => h.1).trans' hkk
  have hcw := whole_bk hBk (by have := n4_le (r := es.length) (by omega); omega)
  have hHR : ∀ i, H i → (i < wb0.heap.size ∧ ∀ y ∈ qa, y.2.ownBlock ≠ some i) ∧ ∀ e ∈ es, ¬ e.2.2 i := fun i hi => ⟨⟨hFq i (.inr (.inl hi)), hNq i (.inl hi)⟩, (hX i (.inl hi)).2.2.2.2⟩
  have hLR : ∀ i, i < w.heap.size → (i < wb0.heap.size ∧ ∀ y ∈ qa, y.2.ownBlock ≠ some i) ∧ ∀ e ∈ es, ¬ e.2.2 i := fun i hi => ⟨⟨hFq i (.inr (.inr (.inr (.inr hi)))), hNq i (.inr (.inr (.inr hi)))⟩, fun e he hf => by have := ((hU6.each e he).2.2.2 i hf).1; omega⟩
  have hPc := hP6.keep (KK.mono fun i _ hi => hHR i hi)
  have hOc : Old w wc := hO6.trans KK fun i hi _ => hLR i hi
  have hpl : ∀ (W : World), Old wc W → Calls Try.prog 24 #[.pointer (some ⟨gn, 0, none⟩), .pointer (some ⟨gm, 0, none⟩), .agg #[.int .i64 6, .slice none 0 0, .int .i64 0, .int .i64 0, .int .u8 0]] W (PostPlays H W gn gm lm) := fun W hW => plays_any W H (fun _ => False) gn gm lm 6 0 0 0 none 0 [] (hPc.keep (hW.old _)) (Pks.nil _ _ _) (fun _ h => h.elim)
  have HPL := hid hpl
  have HXX := hid (And.intro hX hOc)
  clear hBk hkk hU6 hP6 hO6 hX hFq hNq hAq hz KK hHR hLR hPc hOc hpl
  go_wp2_with fail
  refine hcw.mono ?_
  rintro e w8 ⟨rfl, k8⟩
  clear hcw
  have hp2 := HPL.out w8 k8
  go_wp2_with fail
  refine hp2.mono ?_
  rintro e w9 ⟨rfl, H9, _, _, k9⟩
  clear hp2
  have HR := hid (show Old w w9 from by
    obtain ⟨hX, hOc⟩ := HXX.out
    exact (hOc.trans' k8).trans k9 fun i hi _ hh => by have := (hX i (.inl hh)).1; omega)
  clear k9 k8
  go_wp2
  go_ret
  exact ⟨rfl, HR.out⟩
end Go.Proofs.Ytgnndggbjipioaa
