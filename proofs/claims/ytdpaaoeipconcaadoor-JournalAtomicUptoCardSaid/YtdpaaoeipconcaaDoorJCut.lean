/- weftlaw12.JournalCut: a synced area that lost its end has the records whose frames are whole, or is told. Conditions: the lists can be read, the table lies. -/
import Derived.Test.YtdpaaoeipconcaaDoorJCutP
import Derived.Test.YtdpaaoeipconcaaDoorJPlays
namespace Go.Proofs.YtdpaaoeipconcaaDoor
open Go.RowKit

theorem Rcs.take {S : Nat → Prop} {w : World} {A : Option Addr} {rs : List (List UInt8)} (h : Rcs S w A rs) (n : Nat) : Rcs S w A (rs.take n) :=
  ⟨by have := h.1; simp; omega, fun hn => by
    have h0 : rs ≠ [] := fun e => hn (by rw [e]; simp)
    obtain ⟨b, o, e, hs, hc⟩ := h.2 h0
    refine ⟨b, o, e, hs, fun i hi => ?_⟩
    have hi' : i < rs.length := by simp at hi; omega
    obtain ⟨A', c', h1, h2, h3⟩ := hc i hi'
    simp only [List.getElem_take]
    exact ⟨A', c', h1, h2, h3⟩⟩

/-- ahead of a round: the journal and the list of all -/
def InCut (w : World) (lo : Nat) (bs ms : List (List UInt8)) (g k : Nat) (lv : Value) (wr : World) : Prop :=
  ∃ (al : List (List UInt8)) (j : Jn) (F : Nat → Prop) (vA vB vP : Value) (q : List (Wr × Value)) (A : Option Addr) (c : Nat), Hid (al = bs ++ ms.take k) ∧ CutJ bs ms k j ∧ LNet F wr g vA vB vP q j ∧ (∀ k, F k → lo ≤ k) ∧ lv = .slice A al.length c ∧ al.length ≤ c ∧ Rcs (fun k => k < wr.heap.size ∧ ¬ F k) wr A al ∧ Old w wr

set_option maxRecDepth 10000 in
set_option maxHeartbeats 8000000 in
theorem cut_any (w : World) (S : Nat → Prop) (A B : Option Addr) (c d : Nat) (base more : List (List UInt8)) (cut : Int) (ha : Rcs S w A base) (hb : Rcs S w B more) (hc0 : -9223372036854775808 ≤ cut) (hc1 : cut ≤ 9223372036854775807) (hS : ∀ k, S k → k < w.heap.size) (hT : Tab w) :
    Calls Tryd.prog 14 #[.slice A base.length c, .slice B more.length d, .int .i64 cut] w fun e w' => e = .returned (.bool true) ∧ Old w w' := by
  have hf1 := few_any w S A c base 2000 ha hS (by omega)
  have hf2 : ∀ W, Old w W → Calls Tryd.prog 40 #[.slice B more.length d, .int .i64 4000] W (PostL2 W S (fewL more 4000)) := fun W hW => few_any W S B d more 4000 (hb.keep (hW.old _)) (fun k hk => by have := hS k hk; have := hW.size; omega) (by omega)
  have hbs := few_size base 2000
  have hms := few_size more 4000
  generalize fewL base 2000 = bs at *
  generalize fewL more 4000 = ms at *
  have hpos := hT.pos
  have hF2 := hid hf2
  clear hf2 ha hb
  rw [show ((2000 : Nat) : Int) = 2000 from rfl] at hf1
  go_enter Tryd.func14, Tryd.ntmps14
  go_wp2_with fail
  refine hf1.mono ?_
  rintro e w1 ⟨L1, q1, rfl, hq1, hO1, k1⟩
  clear hf1
  go_wp2_with fail
  refine (hF2.out w1 k1).mono ?_
  rintro e w2 ⟨L2, q2, rfl, hq2, hO2, k2⟩
  clear hF2
  have hn1 : q1.length = bs.length := by rw [← hq1]; simp
  have hn2 : q2.length = ms.length := by rw [← hq2]; simp
  have hx1 := sizeF_num bs
  have hx2 := sizeF_num ms
  obtain ⟨A1, c1, hL1, hc1', hR1⟩ := hO1.rcs (by omega)
  obtain ⟨A2, c2, hL2, hc2', hR2⟩ := hO2.rcs (by omega)
  rw [hn1] at hL1 hc1'
  rw [hn2] at hL2
  rw [hq1] at hR1
  rw [hq2] at hR2
  subst hL1 hL2
  clear hq1 hq2 hO1 hO2 hn1 hn2
  have K2 := k1.trans' k2
  have z1 := k1.size
  have z2 := k2.size
  have hR1' : Rcs (fun k => k < w2.heap.size) w2 A1 bs := (hR1.keep (k2.old _)).mono fun k hk _ => hk
  have hR2' : Rcs (fun k => k < w2.heap.size) w2 A2 ms := hR2.mono fun k hk _ => hk
  clear hR1 hR2
  have hT2 := hT.keep (K2.old (fun _ => True)) trivial
  go_wp2_with fail
  refine (first_any w2 hT2).mono ?_
  rintro e w3 ⟨rfl, k3⟩
  have hT3 := hT2.keep (k3.old (fun _ => True)) trivial
  by_cases hcut : cut < 0
  · go_wp2_with fail
    refine (first_any w3 hT3).mono ?_
    rintro e w4 ⟨rfl, k4⟩
    go_wp2
    go_ret
    exact ⟨rfl, (K2.trans' k3).trans' k4⟩
  · obtain ⟨cn, rfl⟩ := Int.eq_ofNat_of_zero_le (show 0 ≤ cut by omega)
    have z3 := k3.size
    have hbg := begun_any w3 hT3 exJ0 ex_open
    have hws0 : exJ0.ws.length = 1 := rfl
    obtain ⟨j1, hrw, hC0⟩ := cut_begin (ms := ms) hbs
    generalize exJ0 = j0 at *
    go_wp2_with fail
    refine hbg.mono ?_
    rintro e w4 ⟨F, g, tt, vA, vB, vP, q, rfl, hL, hF, k4⟩
    clear hbg
    have z4 := k4.size
    have K4 := (K2.trans' k3).trans' k4
    have hT4 := hT3.keep (k4.old (fun _ => True)) trivial
    have hre := rewrite_any w4 F (fun k => k < w2.heap.size) g vA vB vP q j0 A1 bs.length c1 bs hL (hR1'.keep ((k3.trans' k4).old _)) (fun k h1 h2 => by have := hF k h2; omega) rfl hT4 (by omega)
    rw [hrw] at hre
    clear hrw
    go_wp2_with fail
    refine hre.mono ?_
    rintro e w5 ⟨rfl, F5, vP5, q5, hL5, hF5, k5⟩
    clear hre
    simp only at hL5
    have f5 : ∀ k, F5 k → w3.heap.size ≤ k := fun k h => by
      rcases hF5 k h with h | h
      · exact hF k h
      · omega
    have kk5 : Keeps (fun k => k < w2.heap.size) w2 w5 := (((k3.trans' k4).old _).trans k5 fun k _ h1 h2 => by have := hF k h2; omega)
    have z5 := k5.size
    have K5 : Old w w5 := K4.trans k5 fun k hk _ h => by have := hF k h; omega
    have HS := hid (show InCut w w2.heap.size bs ms g 0 (.slice A1 bs.length c1) w5 from ⟨bs, j1, F5, vA, vB, vP5, q5, A1, c1, hid (by simp), hC0, hL5, fun k h => by have := f5 k h; omega, rfl, hc1', (hR1'.keep kk5).mono fun k _ h => ⟨by omega, fun h5 => by have := f5 k h5; omega⟩, K5⟩)
    have H5 := hid (And.intro kk5 f5)
    have hR1 := hR1'
    clear hC0 hL5 kk5 hL hR1'
    go_wp2
    go_loopw [9, 10] (fun lv i wr => ∃ k : Nat, i = .int .i64 k ∧ k ≤ ms.length ∧ Hid (InCut w w2.heap.size bs ms g k lv wr) ∧ Hid (Keeps (fun k => k < w2.heap.size) w2 wr)) (fun _ i _ => ms.length - (intOf i).toNat)
    case atStart => exact ⟨0, rfl, Nat.zero_le _, HS, hid H5.out.1⟩
    case round =>
      clear HS H5
      obtain ⟨k, rfl, hk, hin, hkw⟩ := hrel
      obtain ⟨al, j, F6, vA6, vB6, vP6, q6, A6, c6, hal, hC, hL6, hF6, rfl, hc6, hR6, hold⟩ := hin.out
      have hws := hC.2.2.2.2.2
      have zr := hold.size
      have zk := hkw.out.size
      by_cases hlt : k < ms.length
      · obtain ⟨b, o, A', c', rfl, hSb, h0, h1, h2⟩ := (hR2'.keep hkw.out).at_ hlt
        obtain ⟨j', hap, hC'⟩ := cut_step hbs hms hlt hC
        have HC := hid hC'
        have HT := hid (show al ++ [ms[k]] = bs ++ ms.take (k + 1) by rw [hal.out, List.take_succ_eq_append_getElem hlt, List.append_assoc])
        have i1 : (0 : Int) ≤ (k : Int) := by omega
        have i2 : (k : Int) < (ms.length : Int) := by omega
        have ha7 := append_any wr F6 (fun k => k < w2.heap.size) g vA6 vB6 vP6 q6 j A' ms[k].length c' ms[k] hL6 h2 rfl (hT.keep (hold.old (fun _ => True)) trivial) (by omega)
        rw [hap] at ha7
        clear hC' hap hC
        have hL6n : al.length ≤ 1000 := by rw [hal.out]; simp; omega
        generalize ms[k] = rec at *
        go_wp2_with fail
        refine ha7.mono ?_
        rintro e w7 ⟨rfl, F7, vP7, q7, hL7, hF7, k7⟩
        clear ha7
        simp only at hL7
        have z7 := k7.size
        have hR7 : Rcs (fun k => k < w7.heap.size ∧ ¬ F7 k) w7 A6 al := (hR6.keep (k7.mono fun k _ h => h.2)).mono fun k' _ h => ⟨by omega, fun h7 => by
          rcases hF7 k' h7 with g' | g'
          · exact h.2 g'
          · omega⟩
        have h27 : Bts (fun k => k < w7.heap.size ∧ ¬ F7 k) w7 A' rec := (h2.keep (k7.mono fun k' _ h h6 => by have h' : k' < w2.heap.size := h; have := hF6 k' h6; omega)).mono fun k' _ h => ⟨by have h' : k' < w2.heap.size := h; omega, fun h7 => by
          have h' : k' < w2.heap.size := h
          rcases hF7 k' h7 with g' | g'
          · have := hF6 k' g'; omega
          · omega⟩
        have hpl := plus_any w7 _ A6 A' c6 c' al rec hR7 h27 h1 (fun k h => h.1) (by omega)
        have kk7 : Keeps (fun k => k < w2.heap.size) w2 w7 := hkw.out.trans k7 fun k' _ h1 h6 => by have := hF6 k' h6; omega
        have h07 : w7.cell? ⟨b, o + k, none⟩ = some (.slice A' rec.length c') := (k7.cell (lt_of_cell h0) (fun h6 => by have h' : b < w2.heap.size := hSb; have := hF6 b h6; omega)).trans h0
        have K7 : Old w w7 := hold.trans k7 fun k' hk' _ h6 => by have := hF6 k' h6; omega
        go_wp2_with fail
        refine hpl.mono ?_
        rintro e w8 ⟨L8, q8, rfl, hq8, hO8, k8⟩
        clear hpl
        have HA8 := hid (hq8.trans HT.out)
        clear HT
        generalize al ++ [rec] = al8 at *
        have hn8 : q8.length = al8.length := by rw [← hq8]; simp
        have hl8 : q8.length ≤ 1000 := by
          have h := congrArg List.length HA8.out
          rw [List.length_map] at h
          rw [h]; simp; omega
        have HA := hid (hq8.symm.trans HA8.out)
        obtain ⟨A8, c8, hL8, hc8, hR8⟩ := hO8.rcs (by omega)
        rw [hn8] at hL8 hc8
        rw [hq8] at hR8
        subst hL8
        have z8 := k8.size
        have hlt7 := hL7.lt
        have hR : InCut w w2.heap.size bs ms g (k + 1) (.slice A8 al8.length c8) w8 := ⟨al8, j', F7, vA6, vB6, vP7, q7, A8, c8, HA, HC.out, hL7.keep (k8.old _), fun k' h => by
            rcases hF7 k' h with g' | g'
            · exact hF6 k' g'
            · omega, rfl, hc8, hR8.mono fun k' hk' h => ⟨hk', fun h7 => by
            have := hlt7 k' h7
            rcases h with h | h
            · omega
            · exact h.2 h7⟩, K7.trans' k8⟩
        have HR := hid hR
        have HK := hid (kk7.trans' (k8.old _))
        clear hR kk7 hq8 hn8 hl8 hO8 hR8 hL7 hR7 h27 k7 k8 hL6 HA8 HA hal
        go_wp2
        exact ⟨⟨k + 1, by go_num, by omega, HR, HK⟩, by simp [intOf]; omega⟩
      · obtain rfl : k = ms.length := by omega
        have hal' := hal.out
        rw [List.take_length] at hal'
        have HA := hid hal'
        clear hal hal'
        have i2 : ¬ ((ms.length : Nat) : Int) < (ms.length : Int) := by omega
        have hsy := lsync_any wr F6 g vA6 vB6 vP6 q6 j hL6 (by omega)
        have hcs := cut_sync hC
        go_wp2_with fail
        refine hsy.mono ?_
        rintro e w7 ⟨rfl, F7, vA7, vB7, hL7, hF7, k7⟩
        clear hsy
        have z7 := k7.size
        have K7 : Old w w7 := hold.trans k7 fun k' hk' _ h6 => by have := hF6 k' h6; omega
        have kk7 : Keeps (fun k => k < w2.heap.size) w2 w7 := hkw.out.trans k7 fun k' _ h1 h6 => by have := hF6 k' h6; omega
        have hR7 : Rcs (fun _ => True) w7 A6 al := (hR6.keep (k7.mono fun k _ h => h.2)).mono fun _ _ _ => trivial
        have hB7 : Rcs (fun _ => True) w7 A1 bs := (hR1.keep kk7).mono fun _ _ _ => trivial
        have hcr := lcrash_any w7 F7 g vA7 vB7 _ [] (syncJ j) 0 hL7 (by omega) (by omega) (by simp [syncJ]) (crashJ_len hL7.good 0)
        rw [hcs] at hcr
        go_wp2_with fail
        refine hcr.mono ?_
        rintro e w10 ⟨vA8, vB8, rfl, hA8, hB8, _, k10⟩
        clear hcr
        simp only at hA8 hB8
        obtain ⟨A8, c8, rfl, hc8, _⟩ := hA8.slice
        obtain ⟨B8, d8, rfl, hd8, _⟩ := hB8.slice
        rw [headB_length]
        have hXl : (areaB 2 bs ms).length = 16 + sizeF al := by rw [HA.out]; exact areaB_length 2 bs ms
        have z10 := k10.size
        obtain ⟨W11, hW11⟩ : ∃ W, W = w10.alloc (.cells #[.slice A8 16 c8, .slice B8 (areaB 2 bs ms).length d8] 24) := ⟨_, rfl⟩
        have k11 : Old w10 W11 := by rw [hW11]; exact (Keeps.refl _ _).alloc _
        have hb11 : W11.heap[w10.heap.size]? = some (.cells #[.slice A8 16 c8, .slice B8 (areaB 2 bs ms).length d8] 24 (0, 0)) := by rw [hW11]; exact heap_alloc_new _ _
        have K11 := (K7.trans' k10).trans' k11
        have hR11 := hR7.keep ((k10.trans' k11).old _)
        have hB11 := hB7.keep ((k10.trans' k11).old _)
        have hX := hB8.bts.keep (k11.old _)
        have hsl : ∀ r ∈ al, r.length ≤ 65536 := fun r hr => by
          rw [HA.out] at hr
          rcases List.mem_append.1 hr with hr | hr
          · have := size_mem hbs r hr; omega
          · have := size_mem hms r hr; omega
        have hln : al.length ≤ 1000 := by rw [HA.out]; simp; omega
        have hbl : bs.length ≤ al.length := by rw [HA.out]; simp
        have hslb : ∀ r ∈ bs, r.length ≤ 65536 := fun r hr => by have := size_mem hbs r hr; omega
        -- sizes of fronts, in any world behind
        have hsz0 : ∀ W, Old W11 W → ∀ (m c : Nat), m ≤ al.length → Calls Tryd.prog 27 #[.slice A6 m c] W fun e w' => e = .returned (.int .i64 ((16 + sizeF (al.take m) : Nat) : Int)) ∧ W = w' := fun W hW m c hm => by
          have h := size_any W _ A6 c (al.take m) ((hR11.keep (hW.old _)).take m) (fun r hr => hsl r (List.mem_of_mem_take hr)) (by simp; omega)
          rw [List.length_take, Nat.min_eq_left hm] at h; exact h
        have hsz : ∀ W, Old W11 W → Calls Tryd.prog 27 #[.slice A6 al.length c6] W fun e w' => e = .returned (.int .i64 ((areaB 2 bs ms).length : Int)) ∧ W = w' := fun W hW => by
          have h := hsz0 W hW al.length c6 (Nat.le_refl _)
          rw [List.take_length, ← hXl] at h; exact h
        have hszb : ∀ W, Old W11 W → Calls Tryd.prog 27 #[.slice A1 bs.length c1] W fun e w' => e = .returned (.int .i64 ((16 + sizeF bs : Nat) : Int)) ∧ W = w' := fun W hW =>
          size_any W _ A1 c1 bs (hB11.keep (hW.old _)) hslb (by omega)
        obtain ⟨nn, hnn⟩ : ∃ nn, nn = cn % ((areaB 2 bs ms).length + 1) := ⟨_, rfl⟩
        have hnl : nn ≤ (areaB 2 bs ms).length := by
          have := Nat.mod_lt cn (show 0 < (areaB 2 bs ms).length + 1 by omega)
          omega
        have hco := cut_open (bs := bs) (ms := ms) (n := nn) hbs hms (by rw [← HA.out]; omega)
        have hsm : sizeF al ≤ 6000 := by have h := sizeF_append bs ms; rw [← HA.out] at h; omega
        have hop : ∀ W, Old W11 W → Calls Tryd.prog 32 #[.agg #[.slice none 0 0, .slice B8 nn d8]] W (PostLOpen W (openJ ([], (areaB 2 bs ms).take nn))) := fun W hW =>
          lopen_any W _ none B8 0 nn 0 d8 [] ((areaB 2 bs ms).take nn) (Bts.nil _ _ _) ((hX.keep (hW.old _)).take hnl) rfl (by simp; omega) (Nat.le_refl _) (by omega) (hT.keep ((K11.trans' hW).old (fun _ => True)) trivial)
        obtain ⟨sb, hsb⟩ : ∃ sb, sb = 16 + sizeF bs := ⟨_, rfl⟩
        rw [← hsb] at hszb hco
        have hsb16 : 16 ≤ sb := by omega
        clear hsb
        have j8 : IntKind.i64.wrap (((areaB 2 bs ms).length : Int) + 1) = (((areaB 2 bs ms).length + 1 : Nat) : Int) := by rw [IntKind.wrap_i64]; omega
        have j9 : (cn : Int) % (((areaB 2 bs ms).length + 1 : Nat) : Int) = (nn : Int) := by rw [hnn]; exact (Int.natCast_emod cn _).symm
        have j10 : (0 : Int) ≤ (cn : Int) := by omega
        have j11 : ¬ (((areaB 2 bs ms).length + 1 : Nat) : Int) = 0 := by omega
        have hXpos : (areaB 2 bs ms).length + 1 ≠ 0 := by omega
        have hnd : nn ≤ d8 := by omega
        have HXL := hid hXl
        have HNN := hid hnn
        have HSN := hid hsz0
        clear hsz0
        clear hnn hXl hL6 hL7 hC hin hcs hR2' hX hB8 hA8
        generalize hXX : areaB 2 bs ms = X at *
        clear hXX
        obtain ⟨M, hM⟩ : ∃ M, M = X.length + 1 := ⟨_, rfl⟩
        rw [← hM] at j8 j9 j11 hXpos
        clear hM
        go_upto_region 16 with fail
        rw [← hW11]
        clear hW11
        refine wp_region_tree (fun w' => w'.heap[w10.heap.size]? = some (.cells #[.slice A8 16 c8, .slice B8 X.length d8] 24 (0, 0))) 12
          (.take 0 (.take 1 (.take 2 (.take 3 (.one 4 (.take 5 (.take 6 (.take 7 (.take 8 (.take 9 (.take 10 (.take 11 .tail)))))))))))) (by kernel_rfl) (by kernel_rfl) hb11 ?_
        iterate 4 (refine pt_take (v := ?_) (by rfl) (by first | rfl | kernel_rfl) (fun w' hS => ?_) ?_; rotate_left 1; (have s0 : w'.cell? ⟨w10.heap.size, 0, none⟩ = some (.slice A8 16 c8) := cell_of_heap hS; have s1 : w'.cell? ⟨w10.heap.size, 1, none⟩ = some (.slice B8 X.length d8) := cell_of_heap hS; clear hS; go_simp <;> (try with_reducible rfl)); (simp only [Act.put, List.setIfInBounds_toArray, List.set_cons_zero, List.set_cons_succ]))
        refine pt_one (by rfl) (loudly_of (by first | rfl | kernel_rfl) (fun K hK => ?_))
        go_wp2_with (go_at_call 27; refine (hsz W11.drew (Keeps.refl _ _).drew).mono ?_)
        rintro e w12 ⟨rfl, rfl⟩
        refine hK _ _ hb11 ?_
        clear hK K
        iterate 7 (refine pt_take (v := ?_) (by rfl) (by first | rfl | kernel_rfl) (fun w' hS => ?_) ?_; rotate_left 1; (have s0 : w'.cell? ⟨w10.heap.size, 0, none⟩ = some (.slice A8 16 c8) := cell_of_heap hS; have s1 : w'.cell? ⟨w10.heap.size, 1, none⟩ = some (.slice B8 X.length d8) := cell_of_heap hS; clear hS; go_simp <;> (try with_reducible rfl)); (simp only [Act.put, List.setIfInBounds_toArray, List.set_cons_zero, List.set_cons_succ]))
        refine pt_tail (by rfl) ?_
        go_wp2
        refine NoPanic.normal ?_
        have kd : Old W11 W11.drew := (Keeps.refl _ _).drew
        have hb12 : W11.drew.heap[w10.heap.size]? = some (.cells #[.slice A8 16 c8, .slice B8 X.length d8] 24 (0, 0)) := hb11
        generalize W11.drew = W12 at *
        have s0 : W12.cell? ⟨w10.heap.size, 0, none⟩ = some (.slice A8 16 c8) := cell_of_heap hb12
        have s1 : W12.cell? ⟨w10.heap.size, 1, none⟩ = some (.slice B8 X.length d8) := cell_of_heap hb12
        clear hb11 hb12
        go_upto_region 19 with fail
        have zd := kd.size
        rcases hco with ⟨hn16, jj, hoj, hdj, hwj⟩ | ⟨hn16, hnb, hoj⟩ | ⟨hnb, m, jj, hm, hoj, hwj, hej, hse, hlast⟩
        · have hop' := hop W12 kd
          rw [hoj] at hop'
          go_wp2_with (go_at_call 32; refine hop'.mono ?_)
          rintro e w13 ⟨F13, g13, a13, b13, p13, q13, L13, ql, rfl, hL13, hF13, hq13, hO13, k13⟩
          rw [j9]
          clear hop hop' j8 j9 hoj
          have hql0 : ql = [] := by simpa using hq13
          subst hql0
          obtain ⟨A13, c13, rfl, _, _⟩ := own_slice hO13.row
          have hd := ldirty_any hL13 (by omega)
          rw [hdj, show ((16 : Nat) : Int) = 16 from rfl] at hd
          have h27 := hszb w13 (kd.trans' k13)
          have i20 : nn < sb := by omega
          have kend := (K11.trans' kd).trans' k13
          clear hszb hsz hdj hL13 hO13 hq13
          go_wp2_with (go_at_call 27; refine h27.mono ?_)
          rintro e w14 ⟨rfl, rfl⟩
          go_wp2_with (go_at_call 23; refine hd.mono ?_)
          rintro e w15 ⟨rfl, k15⟩
          go_wp2
          go_ret
          exact ⟨rfl, kend.trans' k15⟩
        · have hop' := hop W12 kd
          rw [hoj] at hop'
          go_wp2_with (go_at_call 32; refine hop'.mono ?_)
          rintro e w13 ⟨rfl, k13⟩
          rw [j9]
          clear hop hop' j8 j9 hoj
          have h27 := hszb w13 (kd.trans' k13)
          have i16 : ¬ nn < 16 := by omega
          have kend := (K11.trans' kd).trans' k13
          clear hszb hsz
          go_wp2_with (go_at_call 27; refine h27.mono ?_)
          rintro e w14 ⟨rfl, rfl⟩
          go_wp2
          go_ret
          exact ⟨rfl, kend⟩
        · obtain ⟨rs, hrs⟩ : ∃ rs, rs = bs ++ ms.take m := ⟨_, rfl⟩
          rw [← hrs] at hoj hej hse
          have hrl : rs.length = bs.length + m := by rw [hrs]; simp; omega
          have hal := congrArg List.length HA.out
          rw [List.length_append] at hal
          have ht0 : al.take rs.length = rs := by rw [HA.out, hrl, hrs]; simp [List.take_append]; exact List.take_of_length_le (by omega)
          have ht1 : al.take (rs.length + 1) = bs ++ ms.take (m + 1) := by rw [HA.out, hrl, Nat.add_assoc]; simp [List.take_append]; exact List.take_of_length_le (by omega)
          rw [← ht1] at hlast
          clear hrs ht1
          have hop' := hop W12 kd
          rw [hoj] at hop'
          go_wp2_with (go_at_call 32; refine hop'.mono ?_)
          rintro e w13 ⟨F13, g13, a13, b13, p13, q13, L13, ql, rfl, hL13, hF13, hq13, hO13, k13⟩
          rw [j9]
          clear hop hop' j8 j9 hoj
          have hqn : ql.length = rs.length := by have h := congrArg List.length hq13; rw [List.length_map] at h; exact h
          have hr1 : rs.length ≤ al.length := by omega
          have hr2 : ¬ rs.length < bs.length := by omega
          obtain ⟨A13, c13, rfl, hc13, hR13⟩ := hO13.rcs (by omega)
          rw [hqn] at hc13 ⊢
          rw [hq13] at hR13
          have kend := (K11.trans' kd).trans' k13
          have hli := lists_any w13 _ _ A13 A6 c13 c6 rs (al.take rs.length) hR13 ((hR11.keep ((kd.trans' k13).old _)).take _)
          rw [List.length_take, Nat.min_eq_left hr1, ht0, decide_eq_true rfl] at hli
          have hslr : ∀ r ∈ rs, r.length ≤ 65536 := fun r hr => hsl r (by rw [← ht0] at hr; exact List.mem_of_mem_take hr)
          obtain ⟨sr, hsr⟩ : ∃ sr, sr = 16 + sizeF rs := ⟨_, rfl⟩
          have hszr : ∀ W, Old w13 W → Calls Tryd.prog 27 #[.slice A13 rs.length c13] W fun e w' => e = .returned (.int .i64 (sr : Int)) ∧ W = w' := fun W hW => by
            have h := size_any W _ A13 c13 rs (hR13.keep (hW.old _)) hslr (by omega)
            rw [← hsr] at h; exact h
          have hls : ∀ W, Old w13 W → Calls Tryd.prog 21 #[.pointer (some ⟨g13, 0, none⟩)] W fun e w' => e = .returned (.int .i64 (sr : Int)) ∧ W = w' := fun W hW => by
            have h := lsize_any (hL13.keep (hW.old _))
            rw [hej, ← hsr] at h; exact h
          have hld : ∀ W, Old w13 W → Calls Tryd.prog 23 #[.pointer (some ⟨g13, 0, none⟩)] W fun e w' => e = .returned (.int .i64 0) ∧ Old W w' := fun W hW => by
            have h := ldirty_any (hL13.keep (hW.old _)) (by rw [hwj]; simp)
            rw [hwj] at h; exact h
          rw [← hsr] at hse
          have HR := hid hsr
          have h27 := hszb w13 (kd.trans' k13)
          have i20 : ¬ nn < sb := by omega
          have i24 : ¬ nn < sr := by omega
          have hcl : rs.length ≤ c6 := by omega
          have hlast' : rs.length = al.length ∨ rs.length < al.length ∧ nn < 16 + sizeF (List.take (rs.length + 1) al) := by
            rcases hlast with h | h
            · left; omega
            · right; exact ⟨by omega, h.2⟩
          clear hrl hal hlast hm hqn
          clear hszb hsz hsr hej hwj hO13 hq13 hL13 hR13
          have HT0 := hid ht0
          clear ht0
          go_wp2_with (go_at_call 27; refine h27.mono ?_)
          rintro e w14 ⟨rfl, rfl⟩
          clear h27
          go_wp2_with (go_at_call 33; refine hli.mono ?_)
          have mark33 := True.intro
          rintro e w15 ⟨rfl, n15, hw15⟩
          clear hli
          have k15 : Old w13 w15 := by rw [← hw15]; exact (Keeps.refl _ _).drewN _
          clear hw15
          go_wp2_with (go_at_call 27; refine (hszr w15 k15).mono ?_)
          have mark27 := True.intro
          rintro e w16 ⟨rfl, rfl⟩
          go_upto_region 26 with fail
          rcases hlast' with hlast | ⟨hlast, hnx⟩
          · have hra : rs = al := by have h := HT0.out; rw [hlast, List.take_length] at h; exact h.symm
            subst hra
            clear hlast
            go_wp2_with (go_at_call 21; refine (hls w15 k15).mono ?_)
            rintro e w17 ⟨rfl, rfl⟩
            go_wp2_with (go_at_call 27; refine (hszr w15 k15).mono ?_)
            rintro e w18 ⟨rfl, rfl⟩
            go_wp2_with (go_at_call 23; refine (hld w15 k15).mono ?_)
            rintro e w19 ⟨rfl, k19⟩
            go_wp2
            go_ret
            exact ⟨rfl, (kend.trans' k15).trans' k19⟩
          · obtain ⟨N1, hN1⟩ : ∃ N1, N1 = rs.length + 1 := ⟨_, rfl⟩
            have j26 : IntKind.i64.wrap ((rs.length : Int) + 1) = (N1 : Int) := by rw [IntKind.wrap_i64]; omega
            have h27 := HSN.out w15 ((kd.trans' k13).trans' k15) N1 c6 (by omega)
            obtain ⟨s1, hs1⟩ : ∃ s1, s1 = 16 + sizeF (al.take N1) := ⟨_, rfl⟩
            rw [← hs1] at h27
            have i26 : nn < s1 := by rw [hs1, hN1]; exact hnx
            have j27 : ¬ rs.length = al.length := by omega
            have hc6n : N1 ≤ c6 := by omega
            clear hs1 hnx hN1
            go_wp2_with (go_at_call 27; refine h27.mono ?_)
            rintro e w16 ⟨rfl, rfl⟩
            go_wp2_with (go_at_call 21; refine (hls w15 k15).mono ?_)
            rintro e w17 ⟨rfl, rfl⟩
            go_wp2_with (go_at_call 27; refine (hszr w15 k15).mono ?_)
            rintro e w18 ⟨rfl, rfl⟩
            go_wp2_with (go_at_call 23; refine (hld w15 k15).mono ?_)
            rintro e w19 ⟨rfl, k19⟩
            go_wp2
            go_ret
            exact ⟨rfl, (kend.trans' k15).trans' k19⟩
end Go.Proofs.YtdpaaoeipconcaaDoor
