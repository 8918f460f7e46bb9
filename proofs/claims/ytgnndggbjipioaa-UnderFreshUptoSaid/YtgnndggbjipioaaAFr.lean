/- weftlaw18.UnderFresh: memory, in and out. Conditions: the script can be read and is of small bulk. -/
import Derived.Test.YtgnndggbjipioaaAFrP
namespace Go.Proofs.Ytgnndggbjipioaa
open Go.RowKit

/-- ahead of a round of the second loop: nothing below 'in' has changed -/
def InH (ga NA : Nat) (ps : List Pk) (k : Nat) (vR : Value) (wb wr : World) : Prop := ∃ q, HandS ga ga NA ps k vR q wr ∧ Keeps (fun i => i < ga) wb wr

set_option maxRecDepth 20000 in
set_option maxHeartbeats 32000000 in
theorem fresh_any (w : World) (S : Nat → Prop) (lim : Int) (C : Option Addr) (cc : Nat) (l : List OpD) (hO : Ops S w C l) (hS : ∀ k, S k → k < w.heap.size) (hsl : SmallOps l) (hln : l.length ≤ 209716) :
    Calls Try.prog 16 #[.int .i64 lim, .slice C l.length cc] w fun e w' => e = .returned (.bool true) ∧ Old w w' := by
  obtain ⟨i48, hi48, hy0, hy1, hy2⟩ := info_parts info48
  have hmkO : ∀ (N : Nat) (W : World), N ≤ 2000000000000 → (Instr.makeSlice 34 (.int .i64 (N : Int)) (.int .i64 (N : Int))).run Try.prog W = .ok (.slice (some ⟨W.heap.size, 0, none⟩) N N) (W.alloc (.cells (madeCells #[.int .u32 0, .slice none 0 0] (N * 2)) 48)) := fun N W hN => by
    have hmk := run_make (P := Try.prog) W 34 48 i48 _ Try.underlying34 hi48 hy0 .i64 .i64 (N : Int) (N : Int) (by omega) (by omega) (by rw [hy2]; omega) (by omega)
    simp only [hy1, Int.toNat_natCast] at hmk
    exact hmk
  have HMO := hid hmkO
  clear hmkO hy0 hy1 hy2 hi48
  have hb := both_any w lim
  have hl0 := hO.1
  unfold PostBoth at hb
  by_cases hlm : 1 ≤ lim ∧ lim ≤ 4096
  case neg =>
    simp only [if_neg hlm] at hb
    go_enter Try.func16, Try.ntmps16
    go_wp2_with fail
    refine hb.mono ?_
    rintro e w1 ⟨k1, rfl⟩
    clear hb
    go_wp2_with fail
    refine (first_any w1).mono ?_
    rintro e w2 ⟨rfl, k2⟩
    go_wp2
    go_ret
    exact ⟨rfl, k1.trans' k2⟩
  simp only [if_pos hlm] at hb
  go_enter Try.func16, Try.ntmps16
  go_wp2_with fail
  refine hb.mono ?_
  rintro e w1 ⟨k1, gn, gm, H, rfl, hT, hH⟩
  clear hb
  generalize lim.toNat = lm at *
  go_wp2_with fail
  refine (first_any w1).mono ?_
  rintro e w2 ⟨rfl, k2⟩
  obtain ⟨pb, hpb⟩ : ∃ pb, pb = w2.heap.size := ⟨_, rfl⟩
  obtain ⟨W3, hW3⟩ : ∃ W, W = w2.alloc (.cells #[.slice none 0 0, .slice none 0 0, .int .i64 0, .slice none 0 0] 63) := ⟨_, rfl⟩
  have HS := hid (show ∃ H, FrH w gn gm lm pb (nF 0) (zF 0) H W3 from by
    have k3 : Old w2 W3 := by rw [hW3]; exact (Keeps.refl _ _).alloc _
    have z1 := k1.size
    have z2 := k2.size
    have hlt := hT.lt
    refine ⟨H, (hT.keep (k2.old _)).keep (k3.old _), hH, ?_, (k1.trans' k2).trans' k3⟩
    rw [hW3, hpb, nF_zero, zF_zero]
    exact Bk.new _ fun i hi => by
      rcases hi with hi | hi
      · omega
      · have := hlt i hi; omega)
  clear hT hH k1 k2 hlm
  go_upto_region 7 with fail
  rw [← hW3, ← hpb]
  clear hW3 hpb
  go_wp2
  go_loopw [9, 10, 11, 12, 13, 14, 15, 16, 17, 18, 19, 20, 21] (fun v _ _ _ _ _ _ _ _ _ _ _ _ wr => ∃ k : Nat, v = .int .i64 k ∧ k ≤ l.length ∧ Hid (∃ H, FrH w gn gm lm pb (nF k) (zF k) H wr)) (fun v _ _ _ _ _ _ _ _ _ _ _ _ _ => l.length - (intOf v).toNat)
  case atStart => exact ⟨0, rfl, Nat.zero_le _, HS⟩
  case round =>
    clear HS
    obtain ⟨k, rfl, hk, hin⟩ := hrel
    have i0 : (0 : Int) ≤ (k : Int) := by omega
    obtain ⟨H, hF⟩ := hin.out
    clear hin
    have hnk := nF_le (r := k) (by omega)
    have hzk := zF_le (r := k) (by omega)
    by_cases hlt : k < l.length
    · have i1 : (k : Int) < (l.length : Int) := by omega
      have hold := hF.old
      have hsm := hsl.2 l[k] (List.getElem_mem hlt)
      obtain ⟨b, off, A1, c1, rfl, hSb, h0, h1, h2, h3, h4, h5, h6⟩ := hO.at_ (j := k) hlt
      generalize l[k] = x at *
      obtain ⟨kd, hkd⟩ : ∃ kd, kd = x.kind := ⟨_, rfl⟩
      rw [← hkd] at h0
      clear hkd
      replace h0 := ((hold.old S).cell (lt_of_cell h0) hSb).trans h0
      replace h1 := ((hold.old S).cell (lt_of_cell h1) hSb).trans h1
      replace h2 := ((hold.old S).cell (lt_of_cell h2) hSb).trans h2
      replace h3 := ((hold.old S).cell (lt_of_cell h3) hSb).trans h3
      replace h4 := ((hold.old S).cell (lt_of_cell h4) hSb).trans h4
      obtain ⟨go, hgo⟩ : ∃ g, g = wr.heap.size := ⟨_, rfl⟩
      obtain ⟨wa, hA⟩ : ∃ wa, wa = wr.alloc (.cells #[.int .i64 kd, .slice A1 x.sents.length c1, .int .i64 x.i, .int .i64 x.at_, .int .u8 x.mask.toNat] 36) := ⟨_, rfl⟩
      have ka : Old wr wa := by rw [hA]; exact (Keeps.refl _ _).alloc _
      have hba : wa.heap[go]? = some (.cells #[.int .i64 kd, .slice A1 x.sents.length c1, .int .i64 x.i, .int .i64 x.at_, .int .u8 x.mask.toNat] 36 (0, 0)) := by rw [hA, hgo]; exact heap_alloc_new _ _
      have hza : wa.heap.size = go + 1 := by rw [hA, hgo]; simp
      have HF := hid hF
      have HP := hid h6
      have HGO := hid hgo
      have hgw : w.heap.size ≤ go := by rw [hgo]; exact hold.size
      clear hF h6 hold
      go_upto_region 11 with fail
      rw [← hA, ← hgo]
      clear hA hgo h0 h1 h2 h3 h4
      obtain ⟨hs1, hs2⟩ := hsm
      obtain ⟨NA, hNA⟩ : ∃ NA, NA = x.sents.length + 70 := ⟨_, rfl⟩
      have b1 : IntKind.i64.wrap ((x.sents.length : Int) + 70) = (NA : Int) := by rw [IntKind.wrap_i64]; omega
      have hmk := HMO.out NA wa (by omega)
      obtain ⟨ga, hga⟩ : ∃ g, g = wa.heap.size := ⟨_, rfl⟩
      obtain ⟨W1, hW1⟩ : ∃ W, W = wa.alloc (.cells (madeCells #[.int .u32 0, .slice none 0 0] (NA * 2)) 48) := ⟨_, rfl⟩
      have k1 : Old wa W1 := by rw [hW1]; exact (Keeps.refl _ _).alloc _
      have hz1 : W1.heap.size = ga + 1 := by rw [hW1, hga]; simp
      rw [← hW1] at hmk
      have HS := hid (show InH ga NA x.sents 0 (.slice none 0 0) W1 W1 from ⟨[], by rw [hW1, hga]; exact HandS.new rfl (Nat.le_refl _), Keeps.refl _ _⟩)
      rw [← hga] at hmk
      have y1 : wa.cell? ⟨go, 1, none⟩ = some (.slice A1 x.sents.length c1) := cell_of_heap hba
      have HNA := hid hNA
      have hgg : go < ga := by omega
      have HGA := hid hga
      have HZ1 := hid (And.intro hza hz1)
      clear hW1 hNA hga hza hz1
      go_upto_block 2 with fail
      clear b1 hmk
      obtain ⟨oc, hoc⟩ : ∃ oc : Array Value, oc = #[.int .i64 kd, .slice A1 x.sents.length c1, .int .i64 x.i, .int .i64 x.at_, .int .u8 x.mask.toNat] := ⟨_, rfl⟩
      have hb1 := k1.heap hba trivial
      clear y1
      go_cut [11] (fun vR wx => Hid (InH ga NA x.sents NA vR W1 wx))
      case first =>
        as_aux_lemma =>
          go_wp2
          go_loopw [11, 13, 14] (fun vR v _ wr => ∃ j : Nat, v = .int .i64 j ∧ j ≤ NA ∧ Hid (InH ga NA x.sents j vR W1 wr)) (fun _ v _ _ => NA - (intOf v).toNat)
          case atStart => exact ⟨0, rfl, Nat.zero_le _, HS⟩
          case round =>
            clear HS
            obtain ⟨j, rfl, hj, hin⟩ := hrel
            obtain ⟨q, hH, hkk⟩ := hin.out
            have i2 : (0 : Int) ≤ (j : Int) := by omega
            by_cases hlt2 : j < NA
            · have i3 : (j : Int) < (NA : Int) := by omega
              have hN6 : NA ≤ 1048646 := by have := HNA.out; omega
              have hbr := hkk.heap hb1 hgg
              have z1 : wr.cell? ⟨go, 1, none⟩ = some (.slice A1 x.sents.length c1) := cell_of_heap hbr
              obtain ⟨xs, hrx, hX⟩ := hH.inn
              have hxl := hX.1
              obtain ⟨h0, h1⟩ := hX.2 j hlt2
              have c0 : wr.cell? ⟨ga, j * 2, none⟩ = some (toC x.sents j j) := by rw [hrx.cell (by omega)]; exact h0
              have cf := hrx.frozen
              obtain ⟨m7, hm7⟩ : ∃ m7, m7 = 7000 + j := ⟨_, rfl⟩
              have b1 : IntKind.i64.wrap (7000 + (j : Int)) = (m7 : Int) := by rw [IntKind.wrap_i64]; omega
              have b2 : IntKind.u32.wrap (m7 : Int) = (m7 : Int) := by rw [IntKind.wrap_u32]; omega
              obtain ⟨vt, hvt⟩ : ∃ vt : Value, vt = .int .u32 (m7 : Int) := ⟨_, rfl⟩
              have HM7 := hid hm7
              clear hm7
              obtain ⟨W2, hW2⟩ : ∃ W, W = wr.setCell ⟨ga, j * 2, none⟩ vt := ⟨_, rfl⟩
              have HH := hid (And.intro hH hkk)
              have HX := hid (And.intro hrx hX)
              by_cases hp : j < x.sents.length
              · have i4 : (j : Int) < (x.sents.length : Int) := by omega
                have k2 : Keeps (· ≠ ga) wr W2 := by rw [hW2]; exact (Keeps.refl _ _).setCell (fun _ h => h rfl) _
                have z2 : W2.cell? ⟨go, 1, none⟩ = some (.slice A1 x.sents.length c1) := (k2.cell (lt_of_cell z1) (show go ≠ ga by omega)).trans z1
                obtain ⟨AR, cR, hvR, _, _⟩ := own_slice hH.vr
                subst hvR
                have hSg : ∀ i, S i → i < go := fun i hi => by have := hS i hi; omega
                have KS2 : Keeps (fun i => i < go) wa W2 := ((k1.old _).trans' (hkk.mono fun i _ h => by omega)).trans' (k2.mono fun i _ (h : i < go) => (by omega : i ≠ ga))
                have KSw : Keeps S w W2 := by
                  have hw := HF.out.old
                  exact ((hw.trans' ka).old S).trans KS2 fun i _ hi => hSg i hi
                obtain ⟨b4, o4, A4, c4, rfl, hSb4, g0, g1, g2, g3⟩ := (HP.out.keep KSw).at_ hp
                have hbl := hs2 _ (List.getElem_mem hp)
                obtain ⟨p, hpe⟩ : ∃ p, p = x.sents[j] := ⟨_, rfl⟩
                rw [← hpe] at g0 g1 g2 g3 hbl
                have HPE := hid hpe
                clear hpe
                obtain ⟨t, bs⟩ := p
                simp only at g0 g1 g2 g3 hbl
                obtain ⟨nk, hnk⟩ : ∃ nk, nk = bs.length + 64 := ⟨_, rfl⟩
                have hro := roomy_any W2 S A4 c4 bs g3 (by omega)
                unfold PostRoom at hro
                obtain ⟨gk, hgk⟩ : ∃ g, g = W2.heap.size := ⟨_, rfl⟩
                rw [← hnk, ← hgk] at hro
                have HNK := hid (And.intro hnk hgk)
                clear hgk
                have hql := hH.len
                have hqm : q.length ≤ 1048576 := by omega
                have HB4 := hid hSb4
                have HK2 := hid k2
                clear hH hkk hX hxl h0 h1 hin hnk hql g3 k2 KS2 hSb4
                go_upto_region 18 with fail
                rw [← hvt, ← hW2]
                have HW2 := hid (And.intro hvt hW2)
                clear hvt hW2 c0 b1 b2
                go_wp2_with fail
                refine hro.mono ?_
                rintro e w4 ⟨rfl, hr4, k4⟩
                clear hro z2
                obtain ⟨W5, hW5⟩ : ∃ W, W = w4.alloc (.cells #[.slice (some ⟨gk, 0, none⟩) nk nk] 46) := ⟨_, rfl⟩
                have k5 : Old w4 W5 := by rw [hW5]; exact (Keeps.refl _ _).alloc _
                have hb5 : W5.heap[w4.heap.size]? = some (.cells #[.slice (some ⟨gk, 0, none⟩) nk nk] 46 (0, 0)) := by rw [hW5]; exact heap_alloc_new _ _
                have hrow5 := own_keeps (own_keeps HH.out.1.vr HK2.out fun i hi (e : i = ga) => HH.out.1.gaq.2.1 (by rw [← e]; exact hi)) (k4.trans' k5) fun _ _ => trivial
                go_wp2_with (at_builtin; rw [← hW5]; refine wpList_append_ex _ (by rfl) _ _ 60 46 (by rfl) Try.underlying60 info46 (by rfl) (by omega) (by rfl) hrow5 (some ⟨w4.heap.size, 0, none⟩) 1 1 [.slice (some ⟨gk, 0, none⟩) nk nk] (by rfl) (by rfl) (fun _ => ⟨_, rfl, World.news_of_block hb5⟩) (one_one rfl) (by omega) (by unfold maxLen; omega) ?_; intro v8 w8 hown8 hgrow8 hat8)
                obtain ⟨A8, c8, hv8, _, _⟩ := own_slice hown8
                subst hv8
                have HALL := hid (show InH ga NA x.sents (j + 1) (.slice A8 (q.length + 1) c8) W1 (((w8.setCell ⟨ga, j * 2, none⟩ (.int .u32 t)).setCell ⟨ga, j * 2 + 1, none⟩ (.slice (some ⟨gk, 0, none⟩) bs.length nk)).drew) from by
                  obtain ⟨hH, hkk⟩ := HH.out
                  obtain ⟨hvt, hW2⟩ := HW2.out
                  obtain ⟨hnk, hgk⟩ := HNK.out
                  have hpe := HPE.out
                  have e1 : x.sents[j].1 = t := by rw [← hpe]
                  have e2 : x.sents[j].2 = bs := by rw [← hpe]
                  have hzz := hkk.size
                  obtain ⟨hz0, hz1⟩ := HZ1.out
                  obtain ⟨p1, p2⟩ := hH.two (w1 := W2) (w2 := w4) (W3 := W5) (w4 := w8) (v := vt) (g := gk) hlt2 hp (by omega) hW2 hgk (by rw [e2, ← hnk]; exact hr4) k4 k5 (by rw [e2]; unfold RV; simp only; rw [← hnk]; exact hown8) hgrow8 hat8
                  rw [e1, e2] at p1 p2
                  have hXV : XV (bs, gk) = .slice (some ⟨gk, 0, none⟩) bs.length nk := by unfold XV; simp only; rw [← hnk]
                  rw [hXV] at p1 p2
                  exact ⟨_, p1.keep ((Keeps.refl (fun _ => True) _).drew) (fun _ _ => trivial) (fun _ _ => trivial) trivial, (hkk.trans' (p2.mono fun i _ (hi : i < ga) => ⟨by omega, fun _ e => by have := hH.vrn i e; omega⟩)).drew⟩)
                have K28 : Keeps (fun i => i < ga) wr w8 := by
                  have hH := HH.out.1
                  exact ((HK2.out.mono fun i _ (h : i < ga) => (by omega : i ≠ ga)).trans' ((k4.trans' k5).old _)).trans' (((Keeps.refl _ W5).grown hgrow8 (fun i _ h hn => hn h) : Keeps (fun i => (Value.slice AR q.length cR).ownBlock ≠ some i) W5 w8).mono fun i _ (h : i < ga) e => by have := hH.vrn i e; omega)
                have hx8 : RowS w8 48 2 ga NA (xs.set (j * 2) vt) := by
                  have h2 : RowS W2 48 2 ga NA (xs.set (j * 2) vt) := by rw [HW2.out.2]; exact HX.out.1.set _ _
                  exact (h2.keep (k4.trans' k5) trivial).keep ((Keeps.refl _ W5).grown hgrow8 (fun i _ h hn => hn h) : Keeps (fun i => (Value.slice AR q.length cR).ownBlock ≠ some i) W5 w8) HH.out.1.gaq.2.1
                have KS8 : Keeps (fun i => i < ga) W2 w8 := ((k4.trans' k5).old _).trans' (((Keeps.refl _ W5).grown hgrow8 (fun i _ h hn => hn h) : Keeps (fun i => (Value.slice AR q.length cR).ownBlock ≠ some i) W5 w8).mono fun i _ (h : i < ga) e => by have := HH.out.1.vrn i e; omega)
                have hb4 : b4 < ga := by have := hSg b4 HB4.out; omega
                have n0 := (KS8.cell (lt_of_cell g0) hb4).trans g0
                have n1 := (KS8.cell (lt_of_cell g1) hb4).trans g1
                have hgo8 := K28.heap hbr hgg
                obtain ⟨s0, u0⟩ := hx8.some_ (i := j * 2) (by omega)
                obtain ⟨s1, u1⟩ := hx8.some_ (i := j * 2 + 1) (by omega)
                have uf := hx8.frozen
                have inb : (bs.length : Int) ≤ (nk : Int) := by have := HNK.out.1; omega
                clear hr4 hown8 hgrow8 hat8 hrow5 hb5 k5 k4 K28 KS8 hx8 g0 g1 KSw hSg
                go_upto_region 20 with fail
                refine wp_region_tree (fun w' => w'.heap[go]? = some (.cells #[.int .i64 kd, .slice (some ⟨b4, o4, none⟩) x.sents.length c1, .int .i64 x.i, .int .i64 x.at_, .int .u8 x.mask.toNat] 36 (0, 0)) ∧ w'.cell? ⟨b4, o4 + j * 2, none⟩ = some (.int .u32 t) ∧ w'.cell? ⟨b4, o4 + j * 2 + 1, none⟩ = some (.slice A4 bs.length c4)) 19
                  (.take 0 (.take 1 (.take 2 (.take 3 (.take 4 (.take 5 (.take 6 (.take 7 (.take 8 (.take 9 (.take 10 (.take 11 (.take 12 (.take 13 (.take 14 (.take 15 (.take 16 (.take 17 (.take 18 .tail))))))))))))))))))) (by kernel_rfl) (by kernel_rfl) ⟨hgo8, n0, n1⟩ ?_
                iterate 19 (refine pt_take (v := ?_) (by rfl) (by first | rfl | kernel_rfl) (fun w' hS => ?_) ?_; rotate_left 1; (obtain ⟨hS, t2, t3⟩ := hS; have t1 : w'.cell? ⟨go, 1, none⟩ = some (.slice (some ⟨b4, o4, none⟩) x.sents.length c1) := cell_of_heap hS; clear hS; go_simp <;> (try with_reducible rfl)); (simp only [Act.put, List.setIfInBounds_toArray, List.set_cons_zero, List.set_cons_succ]))
                refine pt_tail (by rfl) ?_
                go_wp2
                refine NoPanic.normal ?_
                go_wp2
                exact ⟨⟨j + 1, by go_num, by omega, HALL⟩, by simp [intOf]; omega⟩
              · have i4 : ¬ (j : Int) < (x.sents.length : Int) := by omega
                have k2 : Keeps (· ≠ ga) wr W2 := by rw [hW2]; exact (Keeps.refl _ _).setCell (fun _ h => h rfl) _
                have z2 : W2.cell? ⟨go, 1, none⟩ = some (.slice A1 x.sents.length c1) := (k2.cell (lt_of_cell z1) (show go ≠ ga by omega)).trans z1
                have HR := hid (show InH ga NA x.sents (j + 1) u11 W1 W2 from by
                  obtain ⟨hH, hkk⟩ := HH.out
                  obtain ⟨p1, p2⟩ := hH.one hlt2 (by omega)
                  rw [hW2, hvt, HM7.out]
                  exact ⟨q, p1, hkk.trans' (p2.mono fun i _ (h : i < ga) => (by omega : i ≠ ga))⟩)
                clear hH hkk hX hxl h0 h1 hin k2 hrx
                go_upto_region 17 with fail
                rw [← hvt, ← hW2]
                clear hvt hW2
                go_wp2
                exact ⟨⟨j + 1, by go_num, by omega, HR⟩, by simp [intOf]; omega⟩
            · obtain rfl : NA = j := by omega
              have i3 : ¬ ((NA : Nat) : Int) < (NA : Int) := by omega
              clear hH hkk
              go_wp2
              go_meet
              exact hin
      case rest =>
      clear HS
      obtain ⟨q, hH2, hk2⟩ := hcut.out
      clear hcut
      obtain ⟨wB, hwB⟩ : ∃ W, W = wc := ⟨_, rfl⟩
      subst hwB
      have hgoB : wB.heap[go]? = some (.cells #[.int .i64 kd, .slice A1 x.sents.length c1, .int .i64 x.i, .int .i64 x.at_, .int .u8 x.mask.toNat] 36 (0, 0)) := hk2.heap hb1 hgg
      have kB : Old wr wB := (ka.trans k1 fun _ _ _ => trivial).trans hk2 fun i hi _ => by have := HGO.out; omega
      have hMB := HF.out.mid kB
      obtain ⟨bz, hbz⟩ : ∃ bz, bz = wB.heap.size := ⟨_, rfl⟩
      rw [← HGO.out, ← hbz] at hMB
      rw [← hoc] at hgoB
      have hZ : HandZ go bz go ga NA oc x.sents u11 q wB := by
        have hl := hH2.less (b2 := go) (by omega)
        refine ⟨hl, hgoB, Nat.le_refl _, by rw [hbz]; exact lt_of_heap hgoB, fun y hy => by rw [hbz]; exact hH2.rooms.lt y hy, fun i hi => by rw [hbz]; exact own_lt hH2.vr hi, ?_⟩
        obtain ⟨xs, hrx, _⟩ := hH2.inn
        rw [hbz]; exact hrx.lt
      have hoB : Old w wB := HF.out.old.trans' kB
      obtain ⟨AR, cR, hvR, _, _⟩ := own_slice hH2.vr
      subst hvR
      have HZ := hid hZ
      have HOB := hid hoB
      have HMB := hid hMB
      have HBZ := hid hbz
      have HOC := hid hoc
      have hNN : (x.sents.length : Int) ≤ (NA : Int) := by have := HNA.out; omega
      have hql : q.length = x.sents.length := by rw [hH2.len]; have := HNA.out; omega
      have HQL := hid hql
      have hpks := hZ.s.pks (by have := HNA.out; omega) (by have := HNA.out; omega) (by omega) (fun p hp => by have := hs2 p hp; omega)
      have HPK := hid hpks
      have y0 : wB.cell? ⟨go, 0, none⟩ = some (.int .i64 kd) := by rw [hoc] at hgoB; exact cell_of_heap hgoB
      have y1 : wB.cell? ⟨go, 1, none⟩ = some (.slice A1 x.sents.length c1) := by rw [hoc] at hgoB; exact cell_of_heap hgoB
      clear hH2 hk2 hMB hZ hoB hpks hgoB hoc hba hb1 ka k1 kB hql hbz HGA HZ1 HF HMO
      go_upto_if 110 with fail
      go_cut [] (fun wx => Hid (∃ H, MidH w gn gm lm pb (nF k + 4) (zF k + 66000) go bz H wB wx))
      case first =>
        as_aux_lemma =>
          by_cases hk2 : kd = 2
          · subst hk2
            obtain ⟨F, Gm, Ln, Lm, q0, r0, hN, hR, hqr, hFG, hFH, hGmH, hHlt⟩ := HMB.out.t
            have hgoB := HZ.out.o
            rw [HOC.out] at hgoB
            have hgoH : ¬ H go := fun h => (HMB.out.hn go h).2 ⟨Nat.le_refl _, HZ.out.go1⟩
            have y2 : wB.cell? ⟨go, 2, none⟩ = some (.int .i64 x.i) := cell_of_heap hgoB
            have hgF : ¬ F go := fun h => hgoH (hFH go h)
            have hgG : ¬ Gm go := fun h => hgoH (hGmH go h)
            have hGlt := hR.lt
            have htk := utake_any wB F gn lm Ln q0 x.i hN
            unfold PostUTake at htk
            have hlenT := takeS_len (i := x.i) (ps := q0.map (·.1)) fun p hp => by obtain ⟨y, hy, rfl⟩ := List.mem_map.1 hp; exact hN.len y hy
            generalize hTk : takeS x.i (q0.map (·.1)) = T at *
            obtain ⟨⟨t, bs⟩, er, ps'⟩ := T
            have HTk := hid hTk
            have HQ := hid hqr
            have HL := hid hlenT
            clear hTk hqr hlenT
            go_wp2_with fail
            refine htk.mono ?_
            rintro e w1 ⟨F', G1, L', q', v1, rfl, hN1, hq1, ho1, hF', hG1, hFG1, K1⟩
            clear htk
            obtain ⟨A2, c2, rfl, hc2, _⟩ := ho1.slice
            simp only at hq1 ho1 hc2 ⊢
            have hb1 := K1.heap hgoB hgF
            have z0 : w1.cell? ⟨go, 2, none⟩ = some (.int .i64 x.i) := cell_of_heap hb1
            obtain ⟨g1, hg1⟩ : ∃ g, g = w1.heap.size := ⟨_, rfl⟩
            obtain ⟨w2, hW2⟩ : ∃ W, W = w1.alloc (.cells #[.int .u32 t, .slice A2 bs.length c2] 48) := ⟨_, rfl⟩
            have k1 : Old w1 w2 := by rw [hW2]; exact (Keeps.refl _ _).alloc _
            have hs1 : w2.heap[g1]? = some (.cells #[.int .u32 t, .slice A2 bs.length c2] 48 (0, 0)) := by rw [hW2, hg1]; exact heap_alloc_new _ _
            have hz1 := K1.size
            have hgm1 : ¬ Gm g1 := fun h => by have := hGlt _ h; omega
            have hrt := rtake_any w2 Gm gm lm Lm r0 x.i ((hR.keep (K1.mono fun k _ h hf => hFG k hf h)).keep (k1.old _))
            unfold PostRTake at hrt
            rw [← HQ.out, HTk.out] at hrt
            have z2 : w2.cell? ⟨go, 2, none⟩ = some (.int .i64 x.i) := cell_of_heap (k1.heap hb1 trivial)
            go_upto_region 24 with fail
            rw [← hW2, ← hg1]
            have HG1 := hid hg1
            clear hW2 hg1 z0 y2
            go_wp2_with fail
            refine hrt.mono ?_
            rintro e w3 ⟨G', G2, M', r', v2, rfl, hR2, hq2, ho2, hG', hG2, _, K2⟩
            clear hrt
            obtain ⟨A3, c3, rfl, hc3, _⟩ := ho2.slice
            simp only at hq2 ho2 hc3 ⊢
            have hs3 := K2.heap hs1 hgm1
            obtain ⟨g2, hg2⟩ : ∃ g, g = w3.heap.size := ⟨_, rfl⟩
            obtain ⟨w4, hW4⟩ : ∃ W, W = w3.alloc (.cells #[.int .u32 t, .slice A3 bs.length c3] 48) := ⟨_, rfl⟩
            have k3 : Old w3 w4 := by rw [hW4]; exact (Keeps.refl _ _).alloc _
            have hs4 : w4.heap[g2]? = some (.cells #[.int .u32 t, .slice A3 bs.length c3] 48 (0, 0)) := by rw [hW4, hg2]; exact heap_alloc_new _ _
            have hs4' := k3.heap hs3 trivial
            have hbt1 : Bts G1 w4 A2 bs := ho1.bts.keep ((((k1.old (fun k => ¬ Gm k)).trans' K2).trans' (k3.old _)).mono fun k _ hg => hFG k (hG1 k hg))
            have hbt2 : Bts G2 w4 A3 bs := ho2.bts.keep (k3.old _)
            have HB2 := hid (And.intro hbt1 (And.intro hbt2 (And.intro hc2 hc3)))
            go_upto_region 25 with fail
            rw [← hW4, ← hg2]
            clear hW4 hg2 hbt1 hbt2 hs3 hs1
            have u0 : w4.cell? ⟨g1, 0, none⟩ = some (.int .u32 t) := cell_of_heap hs4'
            have u1 : w4.cell? ⟨g1, 1, none⟩ = some (.slice A2 bs.length c2) := cell_of_heap hs4'
            have u2 : ∀ o, (w4.alloc o).cell? ⟨g2, 0, none⟩ = some (.int .u32 t) := fun o => cell_of_heap (((Keeps.refl (fun _ => True) w4).alloc o).heap hs4 trivial)
            have u3 : ∀ o, (w4.alloc o).cell? ⟨g2, 1, none⟩ = some (.slice A3 bs.length c3) := fun o => cell_of_heap (((Keeps.refl (fun _ => True) w4).alloc o).heap hs4 trivial)
            obtain ⟨hbt1, hbt2, hc2, hc3⟩ := HB2.out
            have k5 : Old w4 ((w4.alloc (.cells #[.int .u32 t, .slice A2 bs.length c2] 48)).alloc (.cells #[.int .u32 t, .slice A3 bs.length c3] 48)) := ((Keeps.refl _ _).alloc _).alloc _
            have hsm := sents_any ((w4.alloc (.cells #[.int .u32 t, .slice A2 bs.length c2] 48)).alloc (.cells #[.int .u32 t, .slice A3 bs.length c3] 48)) _ _ (some ⟨w4.heap.size, 0, none⟩) (some ⟨w4.heap.size + 1, 0, none⟩) 1 1 [(t, bs)] [(t, bs)] (pks_one (p := (t, bs)) (alloc_lt (by simp) (heap_alloc_new _ _)) (hbt1.keep (k5.old _)) hc2) (pks_one (p := (t, bs)) (alloc_at (by simp)) (hbt2.keep (k5.old _)) hc3)
            rw [decide_eq_true (show [(t, bs)] = [(t, bs)] from rfl)] at hsm
            have HK5 := hid k5
            clear hbt1 hbt2 hc2 hc3 k5
            go_wp2_with fail
            refine hsm.mono ?_
            rintro e w6 ⟨rfl, nd, hw6⟩
            have k6 : Old w4 w6 := by rw [← hw6]; exact HK5.out.drewN nd
            clear hsm hw6 u0 u1 u2 u3
            have hs6 := k6.heap hs4' trivial
            have v1 : w6.cell? ⟨g1, 1, none⟩ = some (.slice A2 bs.length c2) := cell_of_heap hs6
            have k36 := k3.trans' k6
            obtain ⟨t1, t2, t3⟩ := HMB.out.take1 hN hR hFG hFH hGmH ho1 hG1 K1 k1 K2 k36
            have hlen : bs.length ≤ 65535 := HL.out
            have hk5 := keep_bk t1 (by omega) (by omega) (KeepR.ofOwn t2 (fun k hk => .inl (.inr (hFH k (hG1 k hk))))) (by omega)
            have HALL := hid (And.intro hN (And.intro hR (And.intro hFG (And.intro hFH (And.intro hGmH (And.intro hN1 (And.intro ho1 (And.intro hF' (And.intro hG1 (And.intro hFG1 (And.intro K1 (And.intro k1 (And.intro hR2 (And.intro hG' (And.intro K2 (And.intro (hq1.trans hq2.symm) (And.intro k36 hlen)))))))))))))))))
            clear hN hR hFG hFH hGmH hN1 ho1 hF' hG1 hFG1 K1 k1 hR2 hG' K2 hq1 hq2 k36 hlen t1 t2 t3 k6 k3 hs4 hs4' hs6 hb1 hgoB HB2 HK5
            go_wp2_with fail
            refine hk5.mono ?_
            rintro e w7 ⟨rfl, hB7, k7⟩
            clear hk5 v1
            have HR := hid (show ∃ H, MidH w gn gm lm pb (nF k + 4) (zF k + 66000) go bz H wB w7 from by
              obtain ⟨hN, hR, hFG, hFH, hGmH, hN1, ho1, hF', hG1, hFG1, K1, k1, hR2, hG', K2, hqq, k36, hlen⟩ := HALL.out
              obtain ⟨H', h'⟩ := HMB.out.take2 HOB.out.size (Nat.le_of_eq HBZ.out) hN hR hFG hFH hGmH hN1 ho1 hF' hG1 hFG1 K1 k1 hR2 hG' K2 hqq k36 hB7 k7
              exact ⟨H', h'.more (Nat.le_refl _) (by omega)⟩)
            clear hB7 k7 HALL
            go_wp2
            go_meet
            exact HR
          · have b2 : (kd == 2) = false := beq_eq_false_iff_ne.2 hk2
            have hgoB := HZ.out.o
            rw [HOC.out] at hgoB
            have y2 : wB.cell? ⟨go, 2, none⟩ = some (.int .i64 x.i) := cell_of_heap hgoB
            have y3 : wB.cell? ⟨go, 3, none⟩ = some (.int .i64 x.at_) := cell_of_heap hgoB
            have y4 : wB.cell? ⟨go, 4, none⟩ = some (.int .u8 x.mask.toNat) := cell_of_heap hgoB
            have hpl := plays_any wB H (fun i => go ≤ i ∧ i < wB.heap.size) gn gm lm kd x.i x.at_ x.mask (some ⟨ga, 0, none⟩) NA x.sents HMB.out.t HPK.out (fun i hi => ⟨hi.2, fun hh => (HMB.out.hn i hh).2 ⟨hi.1, by have := HBZ.out; omega⟩⟩)
            clear hgoB
            go_wp2_with fail
            refine hpl.mono ?_
            rintro e w9 hpo
            obtain rfl := hpo.1
            clear hpl y2 y3 y4
            have HR := hid (show ∃ H, MidH w gn gm lm pb (nF k + 4) (zF k + 66000) go bz H wB w9 from by
              obtain ⟨H', h'⟩ := HMB.out.plays HOB.out.size (Nat.le_of_eq HBZ.out) hpo
              exact ⟨H', h'.more (by omega) (by omega)⟩)
            clear hpo
            go_wp2
            go_meet
            exact HR
      case rest =>
      clear y0 y1 HMB HPK
      obtain ⟨H5, hM5⟩ := hcut.out
      clear hcut
      obtain ⟨w5, hw5⟩ : ∃ W, W = wc := ⟨_, rfl⟩
      subst hw5
      have HM5 := hid hM5
      have HZ5 := hid (HZ.out.keep (hM5.k.mono fun i _ hi => .inr hi))
      clear hM5
      go_upto_block 4 with fail
      go_cut [] (fun wx => wx = w5)
      case first =>
        as_aux_lemma =>
          have hn6 : NA ≤ 1048646 := by have := HNA.out; omega
          have hnN : x.sents.length ≤ NA := by have := HNA.out; omega
          go_wp2
          go_loopw [20] (fun v wr => ∃ j : Nat, v = .int .i64 j ∧ x.sents.length ≤ j ∧ j ≤ NA ∧ wr = w5) (fun v _ => NA - (intOf v).toNat)
          case atStart => exact ⟨x.sents.length, rfl, Nat.le_refl _, hnN, rfl⟩
          case round =>
            obtain ⟨j, rfl, hnj, hjN, hww⟩ := hrel
            subst hww
            have i2 : (0 : Int) ≤ (j : Int) := by omega
            by_cases hlt3 : j < NA
            · have i3 : (j : Int) < (NA : Int) := by omega
              obtain ⟨xs, hrx, hX⟩ := HZ5.out.s.inn
              have hxl := hX.1
              obtain ⟨h0, h1⟩ := hX.2 j hlt3
              obtain ⟨m7, hm7⟩ : ∃ m7, m7 = 7000 + j := ⟨_, rfl⟩
              have b1 : IntKind.i64.wrap (7000 + (j : Int)) = (m7 : Int) := by rw [IntKind.wrap_i64]; omega
              have b2 : IntKind.u32.wrap (m7 : Int) = (m7 : Int) := by rw [IntKind.wrap_u32]; omega
              have e0 : toC x.sents NA j = .int .u32 (m7 : Int) := by
                unfold toC
                rw [if_pos hlt3, List.getElem?_eq_none hnj, hm7]
                rfl
              have e1 : byC q j = .slice none 0 0 := by
                unfold byC
                rw [List.getElem?_eq_none (by rw [HQL.out]; exact hnj)]
                rfl
              have c0 : wr.cell? ⟨ga, j * 2, none⟩ = some (.int .u32 (m7 : Int)) := by rw [hrx.cell (by omega), h0, e0]
              have c1 : wr.cell? ⟨ga, j * 2 + 1, none⟩ = some (.slice none 0 0) := by rw [hrx.cell (by omega), h1, e1]
              clear hrx hX hxl h0 h1 hm7 e0 e1
              go_wp2
              exact ⟨⟨j + 1, by go_num, by omega, by omega, by first | trivial | rfl⟩, by simp [intOf]; omega⟩
            · obtain rfl : NA = j := by omega
              have i3 : ¬ ((NA : Nat) : Int) < (NA : Int) := by omega
              go_wp2
              go_meet
              first | trivial | rfl
      case rest =>
      obtain ⟨wl, hwl⟩ : ∃ W, W = wc := ⟨_, rfl⟩
      subst hwl
      subst hcut
      have HS := hid (HM5.out.four (q := q))
      go_upto_block 6 with fail
      go_cut [] (fun wx => Hid (FrH w gn gm lm pb (nF k + 4194308) (zF k + 1099931124176) H5 wx ∧ wx.heap[go]? = some (.cells oc 36 (0, 0))))
      case first =>
        as_aux_lemma =>
          go_wp2
          go_loopw [21] (fun v wr => ∃ j : Nat, v = .int .i64 j ∧ j ≤ q.length ∧ Hid (InF4 w pb (nF k + 4) (zF k + 66000) go bz H5 q j wl wr)) (fun v _ => q.length - (intOf v).toNat)
          case atStart => exact ⟨0, rfl, Nat.zero_le _, HS⟩
          case round =>
            clear HS
            obtain ⟨j, rfl, hj, hin⟩ := hrel
            obtain ⟨hBk, hkk⟩ := hin.out
            have i2 : (0 : Int) ≤ (j : Int) := by omega
            have hqn := HQL.out
            have hN7 := HNA.out
            by_cases hlt4 : j < q.length
            · have i3 : (j : Int) < (q.length : Int) := by omega
              have i3a : (j : Int) < (x.sents.length : Int) := by omega
              have i3b : (j : Int) < (NA : Int) := by omega
              have hjn : j < x.sents.length := by omega
              have hz := HZ5.out
              obtain ⟨gq1, gq2, gq3⟩ := hz.s.gaq
              obtain ⟨gq4, gq5⟩ := hz.gone
              obtain ⟨a1, a2, a3⟩ := hz.s.at_ (by omega) (by omega) hjn hlt4
              have hT : ∀ i, (∀ y ∈ q, y.2 ≠ i) → ∀ y ∈ q.take j, y.2 ≠ i := fun i h y hy => h y (List.mem_of_mem_take hy)
              obtain ⟨gk, hgk⟩ : ∃ gk, gk = q[j].2 := ⟨_, rfl⟩
              have hmem := List.getElem_mem hlt4
              have hgkR : go ≤ gk ∧ gk < bz := by rw [hgk]; exact ⟨hz.s.rooms.new _ hmem, hz.q1 _ hmem⟩
              have hgkT : ∀ y ∈ q.take j, y.2 ≠ gk := fun y hy => by
                obtain ⟨a, ha, rfl⟩ := List.getElem_of_mem hy
                rw [List.length_take] at ha
                rw [List.getElem_take, hgk]
                exact List.pairwise_iff_getElem.1 hz.s.rooms.dis a j (by omega) hlt4 (by omega)
              have hrk := (hz.s.rooms.row _ hmem).keep hkk (.inl (.inr ⟨by rw [← hgk]; exact hgkR, fun y hy => by rw [← hgk]; exact hgkT y hy⟩))
              rw [← hgk, a1] at hrk
              have hSw : ∀ i, S i → i < w.heap.size := hS
              obtain ⟨b4, o4, A4, c4, rfl, hSb4, g0, g1, g2, g3⟩ := (HP.out.keep ((HOB.out.old S).trans HM5.out.k (fun i _ hi => .inl (hSw i hi)) |>.trans hkk fun i _ hi => .inl (.inl (hSw i hi)))).at_ hjn
              have hbl := hs2 _ (List.getElem_mem hjn)
              obtain ⟨p, hpe⟩ : ∃ p, p = x.sents[j] := ⟨_, rfl⟩
              rw [← hpe] at g0 g1 g2 g3 hbl hrk a1 a2
              clear hpe
              obtain ⟨t, bs⟩ := p
              simp only at g0 g1 g2 g3 hbl hrk a1 a2
              obtain ⟨nk, hnk⟩ : ∃ nk, nk = bs.length + 64 := ⟨_, rfl⟩
              have hXV : XV q[j] = .slice (some ⟨gk, 0, none⟩) bs.length nk := by unfold XV; rw [a1, ← hgk, ← hnk]
              have hRV : RV q[j] = .slice (some ⟨gk, 0, none⟩) nk nk := by unfold RV; rw [a1, ← hgk, ← hnk]
              rw [hXV] at a3
              rw [← hnk] at hrk
              obtain ⟨gR, cR2, hvv, _, _, hcl⟩ := own_cells hz.s.vr (by omega)
              injection hvv with hAR _ hcR
              subst hAR hcR
              have hRo : (go ≤ gR ∧ gR < bz) ∧ ∀ y ∈ q, y.2 ≠ gR := ⟨⟨hz.s.vrn gR rfl, hz.v1 gR rfl⟩, fun y hy e => gq3 y hy (by rw [e]; rfl)⟩
              have hrc : wr.cell? ⟨gR, j, none⟩ = some (.slice (some ⟨gk, 0, none⟩) nk nk) := by
                have h5 : wl.cell? ⟨gR, j, none⟩ = some (.slice (some ⟨gk, 0, none⟩) nk nk) := by rw [hcl j (by omega), List.getElem?_map, List.getElem?_eq_getElem hlt4, ← hRV]; rfl
                exact (hkk.cell (lt_of_cell h5) (.inl (.inr ⟨hRo.1, hT gR hRo.2⟩))).trans h5
              have hga4 : (i : Nat) → i = ga → (i < w.heap.size ∨ ((go ≤ i ∧ i < bz) ∧ ∀ y ∈ q.take j, y.2 ≠ i)) ∨ H5 i := fun i e => by rw [e]; exact .inl (.inr ⟨⟨hz.s.ga0, hz.ga1⟩, hT ga gq1⟩)
              have d0 := (hkk.cell (lt_of_cell a2) (hga4 ga rfl)).trans a2
              have d1 := (hkk.cell (lt_of_cell a3) (hga4 ga rfl)).trans a3
              have hgo := hkk.heap hz.o (.inl (.inr ⟨⟨hz.go0, hz.go1⟩, hT go gq4⟩))
              rw [HOC.out] at hgo
              have hca := fun (W : World) (hW : Old wr W) => roomy_any W S A4 c4 bs (g3.keep (hW.old _)) (by omega)
              unfold PostRoom at hca
              rw [← hnk] at hca
              have hcs := fun (W : World) S T A B c d (h1 : Bts S W A (roomyB bs)) (h2 : Bts T W B (roomyB bs)) => same_any W S T A B c d _ _ h1 h2
              simp only [roomyB_length, decide_true] at hcs
              rw [← hnk] at hcs
              have HC := hid (And.intro hca hcs)
              have HK := hid (And.intro hBk (And.intro hkk (And.intro hrk (And.intro hgkR (And.intro hgkT (And.intro hnk hgk))))))
              have hkp : ∀ (W W' : World), Old W W' → (W.heap[go]? = some (.cells #[.int .i64 kd, .slice (some ⟨b4, o4, none⟩) x.sents.length c1, .int .i64 x.i, .int .i64 x.at_, .int .u8 x.mask.toNat] 36 (0, 0)) ∧ W.cell? ⟨gR, j, none⟩ = some (.slice (some ⟨gk, 0, none⟩) nk nk) ∧ W.cell? ⟨b4, o4 + j * 2, none⟩ = some (.int .u32 t) ∧ W.cell? ⟨b4, o4 + j * 2 + 1, none⟩ = some (.slice A4 bs.length c4) ∧ W.cell? ⟨ga, j * 2, none⟩ = some (.int .u32 t)) → (W'.heap[go]? = some (.cells #[.int .i64 kd, .slice (some ⟨b4, o4, none⟩) x.sents.length c1, .int .i64 x.i, .int .i64 x.at_, .int .u8 x.mask.toNat] 36 (0, 0)) ∧ W'.cell? ⟨gR, j, none⟩ = some (.slice (some ⟨gk, 0, none⟩) nk nk) ∧ W'.cell? ⟨b4, o4 + j * 2, none⟩ = some (.int .u32 t) ∧ W'.cell? ⟨b4, o4 + j * 2 + 1, none⟩ = some (.slice A4 bs.length c4) ∧ W'.cell? ⟨ga, j * 2, none⟩ = some (.int .u32 t)) := fun W W' k h => ⟨k.heap h.1 trivial, (k.cell (lt_of_cell h.2.1) trivial).trans h.2.1, (k.cell (lt_of_cell h.2.2.1) trivial).trans h.2.2.1, (k.cell (lt_of_cell h.2.2.2.1) trivial).trans h.2.2.2.1, (k.cell (lt_of_cell h.2.2.2.2) trivial).trans h.2.2.2.2⟩
              have HKP := hid hkp
              have HD1 := hid d1
              clear hca hcs hBk hkk hrk hgkR hgkT hnk hgk hXV hRV a1 a2 a3 hcl hRo hga4 hkp d1 g2 g3 hT hz gq1 gq2 gq3 gq4 gq5 hin hmem hN7 hqn
              go_upto_region 38 with fail
              refine wp_region_tree (fun w' => w'.heap[go]? = some (.cells #[.int .i64 kd, .slice (some ⟨b4, o4, none⟩) x.sents.length c1, .int .i64 x.i, .int .i64 x.at_, .int .u8 x.mask.toNat] 36 (0, 0)) ∧ w'.cell? ⟨gR, j, none⟩ = some (.slice (some ⟨gk, 0, none⟩) nk nk) ∧ w'.cell? ⟨b4, o4 + j * 2, none⟩ = some (.int .u32 t) ∧ w'.cell? ⟨b4, o4 + j * 2 + 1, none⟩ = some (.slice A4 bs.length c4) ∧ w'.cell? ⟨ga, j * 2, none⟩ = some (.int .u32 t)) 27
                (.take 0 (.take 1 (.take 2 (.take 3 (.take 4 (.take 5 (.take 6 (.take 7 (.take 8 (.take 9 (.one 10 (.one 11 (.take 12 (.take 13 (.take 14 (.take 15 (.take 16 (.take 17 (.take 18 (.take 19 (.take 20 (.take 21 (.take 22 (.take 23 (.take 24 (.take 25 (.take 26 .tail))))))))))))))))))))))))))) (by kernel_rfl) (by kernel_rfl) ⟨hgo, hrc, g0, g1, d0⟩ ?_
              iterate 10 (refine pt_take (v := ?_) (by rfl) (by first | rfl | kernel_rfl) (fun w' hS => ?_) ?_; rotate_left 1; (obtain ⟨hS, t1, t2, t3, t4⟩ := hS; have t0 : w'.cell? ⟨go, 1, none⟩ = some (.slice (some ⟨b4, o4, none⟩) x.sents.length c1) := cell_of_heap hS; clear hS; go_simp <;> (try with_reducible rfl)); (simp only [Act.put, List.setIfInBounds_toArray, List.set_cons_zero, List.set_cons_succ]))
              refine pt_one (by rfl) (loudly_of (by first | rfl | kernel_rfl) (fun K hK => ?_))
              have hc5 := HC.out.1 wr.drew ((Keeps.refl _ wr).drew)
              go_wp2_with fail
              refine hc5.mono ?_
              rintro e w4 ⟨rfl, hr4, k4'⟩
              have k4 : Old wr w4 := k4'.ofDrew
              clear hc5 k4'
              refine hK _ _ (HKP.out wr w4 k4 ⟨hgo, hrc, g0, g1, d0⟩) ?_
              clear hK K
              refine pt_one (by rfl) (loudly_of (by first | rfl | kernel_rfl) (fun K hK => ?_))
              have hbr4 := Row1.btsT (zs := roomyB bs) (n := (roomyB bs).length) (HK.out.2.2.1.keep k4 trivial) (Nat.le_refl _) (by rw [roomyB_length]; omega)
              rw [List.take_length] at hbr4
              have hbr5 := Row1.btsT (zs := roomyB bs) (n := (roomyB bs).length) hr4 (Nat.le_refl _) (by rw [roomyB_length]; omega)
              rw [List.take_length] at hbr5
              have hc6 := HC.out.2 w4 _ _ (some ⟨gk, 0, none⟩) (some ⟨wr.drew.heap.size, 0, none⟩) nk nk hbr4 hbr5
              go_wp2_with fail
              refine hc6.mono ?_
              rintro e w6 ⟨rfl, nd5, hw6⟩
              have k6 : Old w4 w6 := by rw [← hw6]; exact (Keeps.refl _ _).drewN _
              have K6 := k4.trans' k6
              clear hc6 hw6 hr4 hbr4 hbr5
              refine hK _ _ (HKP.out wr w6 K6 ⟨hgo, hrc, g0, g1, d0⟩) ?_
              clear hK K
              iterate 15 (refine pt_take (v := ?_) (by rfl) (by first | rfl | kernel_rfl) (fun w' hS => ?_) ?_; rotate_left 1; (obtain ⟨hS, t1, t2, t3, t4⟩ := hS; have t0 : w'.cell? ⟨go, 1, none⟩ = some (.slice (some ⟨b4, o4, none⟩) x.sents.length c1) := cell_of_heap hS; clear hS; go_simp <;> (try with_reducible rfl)); (simp only [Act.put, List.setIfInBounds_toArray, List.set_cons_zero, List.set_cons_succ]))
              refine pt_tail (by rfl) ?_
              go_wp2
              refine NoPanic.normal ?_
              have g6 : w6.cell? ⟨ga, j * 2 + 1, none⟩ = some (.slice (some ⟨gk, 0, none⟩) bs.length nk) := (K6.cell (lt_of_cell HD1.out) trivial).trans HD1.out
              obtain ⟨hBk, hkk, hrk, hgkR, hgkT, hnk, hgk⟩ := HK.out
              have hB5 := (hBk.keep (K6.old _)).less fun i hi => .inl hi
              have hsz : j * 1048976 ≤ 1048576 * 1048976 := Nat.mul_le_mul_right _ (by omega)
              have hk5 := keep_bk hB5 (by omega) (by omega) (lv := .slice (some ⟨gk, 0, none⟩) bs.length nk) (n := bs.length) (.inr ⟨gk, nk, rfl, by simpa using (hrk.keep K6 trivial).take 0, by omega, by unfold maxLen; omega, .inl (.inr ⟨hgkR, hgkT⟩)⟩) (by omega)
              clear hBk hkk hrk hgkR hgkT hnk hgk hB5 hsz hrc g0 g1 d0 hgo
              go_wp2_with fail
              refine hk5.mono ?_
              rintro e w7 ⟨rfl, hB7, k7⟩
              clear hk5 g6
              have HR := hid (show InF4 w pb (nF k + 4) (zF k + 66000) go bz H5 q (j + 1) wl w7 from by
                obtain ⟨hBk, hkk, hrk, hgkR, hgkT, hnk, hgk⟩ := HK.out
                exact InF4.step (g := gk) (n := bs.length) (c := nk) ⟨hBk, hkk⟩ hlt4 hgk hbl hB7 K6 k7 ⟨fun h => (HM5.out.hn gk h).2 hgkR, by omega⟩)
              clear hB7 k7 K6
              go_wp2
              exact ⟨⟨j + 1, by go_num, by omega, HR⟩, by simp [intOf]; omega⟩
            · obtain rfl : j = q.length := by omega
              have i3 : ¬ ((q.length : Nat) : Int) < (q.length : Int) := by omega
              have HR := hid (show FrH w gn gm lm pb (nF k + 4194308) (zF k + 1099931124176) H5 wr ∧ wr.heap[go]? = some (.cells oc 36 (0, 0)) from by
                have hz := HZ5.out
                obtain ⟨gq4, _⟩ := hz.gone
                exact ⟨(InF4.done ⟨hBk, hkk⟩ HM5.out HOB.out (by omega)).more (by omega) (by omega), hkk.heap hz.o (.inl (.inr ⟨⟨hz.go0, hz.go1⟩, fun y hy => gq4 y (List.mem_of_mem_take hy)⟩))⟩)
              clear hBk hkk hin hN7 hqn
              go_wp2
              go_meet
              exact HR
      case rest =>
      clear HS HM5 HZ5 HZ HQL HBZ
      obtain ⟨hFr, hgo6⟩ := hcut.out
      clear hcut
      rw [HOC.out] at hgo6
      obtain ⟨w6, hw6⟩ : ∃ W, W = wc := ⟨_, rfl⟩
      subst hw6
      have HFr := hid hFr
      have y0 : w6.cell? ⟨go, 0, none⟩ = some (.int .i64 kd) := cell_of_heap hgo6
      clear hFr
      go_upto_if 215 with fail
      go_cut [] (fun wx => Hid (∃ H, FrH w gn gm lm pb (nF k + 4300000) (zF k + 2000000000000) H wx))
      case first =>
        as_aux_lemma =>
          by_cases hk6 : kd = 6
          · subst hk6
            obtain ⟨F, Gm, Ln, Lm, q0, r0, hN, _, _, _, _, _, _⟩ := HFr.out.t
            have hli := ulist_any w6 F gn lm Ln q0 hN
            have hq0 : q0.length ≤ 4096 := by have := hN.room; have := hN.most; omega
            have hql := hN.len
            clear hN
            go_wp2_with fail
            refine hli.mono ?_
            rintro e w7 ⟨v1, q1, rfl, hf1, hq1, k1⟩
            clear hli
            obtain ⟨B1, d1, rfl, _, _⟩ := own_slice hf1.row
            have hn1 : q1.length ≤ 4096 := by have e := congrArg List.length hq1; simp at e; omega
            have hsz : ∀ x ∈ q1, x.1.2.length ≤ 65535 := fun x hx => by
              have hm : x.1 ∈ q0.map (·.1) := by rw [← hq1]; exact List.mem_map.2 ⟨x, hx, rfl⟩
              obtain ⟨y, hy, e⟩ := List.mem_map.1 hm
              rw [← e]
              exact hql y hy
            have hsum := keepSum_le' (q := q1) (B := 65535) hsz
            have hprod : q1.length * (65535 + 400) ≤ 270069760 := Nat.le_trans (Nat.mul_le_mul_right _ hn1) (by decide)
            have hsum := Nat.le_trans hsum hprod
            have hB := HFr.out.list1 k1
            have hkl := keepL_bk hB (by omega) (by omega) (F := fun i => w6.heap.size ≤ i ∧ i < w7.heap.size) (hf1.mono fun i hi h => ⟨h, hi⟩) (fun i hi => .inr hi) (by omega) (fun y hy => by have := hsz y hy; omega) (by omega)
            have HK1 := hid k1
            have HSU := hid (And.intro hsum hn1)
            clear hB k1 hf1 hsz hsum hprod hq1 hql hq0 hn1
            go_wp2_with fail
            refine hkl.mono ?_
            rintro e w8 ⟨rfl, hB8, k8⟩
            clear hkl
            have HR := hid (show ∃ H, FrH w gn gm lm pb (nF k + 4300000) (zF k + 2000000000000) H w8 from by
              obtain ⟨hsum, hn1⟩ := HSU.out
              exact ⟨H5, (HFr.out.list2 HK1.out hB8 k8).more (by omega) (by omega)⟩)
            clear hB8 k8 HK1
            go_wp2
            go_meet
            exact HR
          · have b6 : (kd == 6) = false := beq_eq_false_iff_ne.2 hk6
            have HR := hid (show ∃ H, FrH w gn gm lm pb (nF k + 4300000) (zF k + 2000000000000) H w6 from ⟨H5, HFr.out.more (by omega) (by omega)⟩)
            go_wp2
            go_meet
            exact HR
      case rest =>
      clear HFr y0 hgo6
      obtain ⟨H7, hF7⟩ := hcut.out
      clear hcut
      obtain ⟨w7, hw7⟩ : ∃ W, W = wc := ⟨_, rfl⟩
      subst hw7
      have hcw := whole_bk hF7.b (by omega)
      have HF7 := hid hF7
      obtain ⟨rm, hrm⟩ : ∃ rm, rm = k % 64 := ⟨_, rfl⟩
      have e1 : (k : Int) % 64 = (rm : Int) := by omega
      have e1' : (k : Int).tmod 64 = (rm : Int) := by rw [Int.tmod_eq_emod_of_nonneg (by omega)]; exact e1
      clear hF7 hrm
      by_cases hm : rm = 63
      · have e2 : (rm : Int) = 63 := by omega
        have e3 : ((rm : Int) == 63) = true := by rw [e2]; rfl
        go_wp2_with fail
        refine hcw.mono ?_
        rintro e w8 ⟨rfl, k8⟩
        clear hcw
        have HR := hid (show ∃ H, FrH w gn gm lm pb (nF (k + 1)) (zF (k + 1)) H w8 from ⟨H7, (HF7.out.keep k8).more (by rw [nF_succ]; omega) (by rw [zF_succ]; omega)⟩)
        clear k8
        go_wp2
        exact ⟨⟨k + 1, by go_num, by omega, HR⟩, by simp [intOf]; omega⟩
      · have e2 : ¬ (rm : Int) = 63 := by omega
        have e3 : ((rm : Int) == 63) = false := beq_eq_false_iff_ne.2 e2
        have HR := hid (show ∃ H, FrH w gn gm lm pb (nF (k + 1)) (zF (k + 1)) H w7 from ⟨H7, HF7.out.more (by rw [nF_succ]; omega) (by rw [zF_succ]; omega)⟩)
        clear hcw
        go_wp2
        exact ⟨⟨k + 1, by go_num, by omega, HR⟩, by simp [intOf]; omega⟩
    · skip
      have i1 : ¬ (k : Int) < (l.length : Int) := by omega
      have hcw := whole_bk hF.b (by omega)
      have HF := hid hF
      have HOP := hid hO
      clear hF hO HMO
      go_wp2_with fail
      refine hcw.mono ?_
      rintro e w3 ⟨rfl, k3⟩
      clear hcw
      have hpl : Calls Try.prog 24 #[.pointer (some ⟨gn, 0, none⟩), .pointer (some ⟨gm, 0, none⟩), .agg #[.int .i64 6, .slice none 0 0, .int .i64 0, .int .i64 0, .int .u8 0]] w3 (PostPlays H w3 gn gm lm) := plays_any w3 H (fun _ => False) gn gm lm 6 0 0 0 none 0 [] (HF.out.t.keep (k3.old _)) (Pks.nil _ _ _) (fun _ h => h.elim)
      go_wp2_with fail
      refine hpl.mono ?_
      rintro e w4 ⟨rfl, H4, _, _, k4⟩
      clear hpl
      have kO : Old w w4 := (HF.out.old.trans' k3).trans k4 fun i hi _ h => by have := HF.out.hn i h; omega
      have zO := kO.size
      have hun := untouched_any w4 S lim C cc l (HOP.out.keep (kO.old S)) (fun i hi => by have := hS i hi; omega) (by omega)
      have HKO := hid kO
      clear k3 k4 kO
      go_wp2_with fail
      refine hun.mono ?_
      rintro e w5 ⟨rfl, k5⟩
      clear hun
      have kO := HKO.out.trans' k5
      have zO := kO.size
      have hpa := placed_any w5 S lim C cc l (HOP.out.keep (kO.old S)) (fun i hi => by have := hS i hi; omega) hsl
      have HKO := hid kO
      clear k5 kO
      go_wp2_with fail
      refine hpa.mono ?_
      rintro e w6 ⟨rfl, k6⟩
      clear hpa
      have HR := hid (HKO.out.trans' k6)
      clear k6
      go_wp2
      go_ret
      exact ⟨rfl, HR.out⟩
end Go.Proofs.Ytgnndggbjipioaa
