/- weftlaw12.JournalAtomic: a Rewrite is seen whole or not at all; so are Appends behind it. Conditions: the lists can be read, the table lies. -/
import Derived.Test.YtdpaaoeipconcaaDoorJAtomP
import Derived.Test.YtdpaaoeipconcaaDoorJCut
namespace Go.Proofs.YtdpaaoeipconcaaDoor
open Go.RowKit

/-- ahead of a round: the journal and the list of all -/
def InAt (w : World) (lo : Nat) (os ns ms : List (List UInt8)) (g k : Nat) (lv : Value) (wr : World) : Prop :=
  ∃ (al : List (List UInt8)) (j : Jn) (F : Nat → Prop) (vA vB vP : Value) (q : List (Wr × Value)) (A : Option Addr) (c : Nat), Hid (al = ns ++ ms.take k) ∧ AtJ os ns ms k j ∧ LNet F wr g vA vB vP q j ∧ (∀ k, F k → lo ≤ k) ∧ lv = .slice A al.length c ∧ al.length ≤ c ∧ Rcs (fun k => k < wr.heap.size ∧ ¬ F k) wr A al ∧ Old w wr

set_option maxRecDepth 10000 in
set_option maxHeartbeats 8000000 in
theorem atomic_any (w : World) (S : Nat → Prop) (A B C : Option Addr) (c d e0 : Nat) (old now more : List (List UInt8)) (ha : Rcs S w A old) (hb : Rcs S w B now) (hc : Rcs S w C more) (hS : ∀ k, S k → k < w.heap.size) (hT : Tab w) :
    Calls Tryd.prog 12 #[.slice A old.length c, .slice B now.length d, .slice C more.length e0] w fun e w' => e = .returned (.bool true) ∧ Old w w' := by
  have hf1 : ∀ W, Old w W → Calls Tryd.prog 40 #[.slice A old.length c, .int .i64 400] W (PostL2 W S (fewL old 400)) := fun W hW => few_any W S A c old 400 (ha.keep (hW.old _)) (fun k hk => by have := hS k hk; have := hW.size; omega) (by omega)
  have hf2 : ∀ W, Old w W → Calls Tryd.prog 40 #[.slice B now.length d, .int .i64 400] W (PostL2 W S (fewL now 400)) := fun W hW => few_any W S B d now 400 (hb.keep (hW.old _)) (fun k hk => by have := hS k hk; have := hW.size; omega) (by omega)
  have hf3 : ∀ W, Old w W → Calls Tryd.prog 40 #[.slice C more.length e0, .int .i64 200] W (PostL2 W S (fewL more 200)) := fun W hW => few_any W S C e0 more 200 (hc.keep (hW.old _)) (fun k hk => by have := hS k hk; have := hW.size; omega) (by omega)
  have hos := few_size old 400
  have hns := few_size now 400
  have hms := few_size more 200
  generalize fewL old 400 = os at *
  generalize fewL now 400 = ns at *
  generalize fewL more 200 = ms at *
  have hpos := hT.pos
  have HF := hid (And.intro hf1 (And.intro hf2 hf3))
  clear hf1 hf2 hf3 ha hb hc
  have hfi := first_any w hT
  go_enter Tryd.func12, Tryd.ntmps12
  go_wp2_with fail
  refine hfi.mono ?_
  rintro e w1 ⟨rfl, k1⟩
  clear hfi
  have hf1 := HF.out.1 w1 k1
  go_wp2_with fail
  refine hf1.mono ?_
  rintro e w2 ⟨L1, q1, rfl, hq1, hO1, k2⟩
  clear hf1
  have K2 := k1.trans' k2
  have hf2 := HF.out.2.1 w2 K2
  go_wp2_with fail
  refine hf2.mono ?_
  rintro e w3 ⟨L2, q2, rfl, hq2, hO2, k3⟩
  clear hf2
  have K3 := K2.trans' k3
  have hf3 := HF.out.2.2 w3 K3
  go_wp2_with fail
  refine hf3.mono ?_
  rintro e w4 ⟨L3, q3, rfl, hq3, hO3, k4⟩
  clear hf3 HF
  have hn1 : q1.length = os.length := by rw [← hq1]; simp
  have hn2 : q2.length = ns.length := by rw [← hq2]; simp
  have hn3 : q3.length = ms.length := by rw [← hq3]; simp
  have hx1 := sizeF_num os
  have hx2 := sizeF_num ns
  have hx3 := sizeF_num ms
  obtain ⟨A1, c1, hL1, hc1', hR1⟩ := hO1.rcs (by omega)
  obtain ⟨A2, c2, hL2, hc2', hR2⟩ := hO2.rcs (by omega)
  obtain ⟨A3, c3, hL3, hc3', hR3⟩ := hO3.rcs (by omega)
  rw [hn1] at hL1
  rw [hn2] at hL2 hc2'
  rw [hn3] at hL3
  rw [hq1] at hR1
  rw [hq2] at hR2
  rw [hq3] at hR3
  subst hL1 hL2 hL3
  clear hq1 hq2 hq3 hO1 hO2 hO3 hn1 hn2 hn3 hc1' hc3'
  have K4 := K3.trans' k4
  have z4 := K4.size
  have hR1' : Rcs (fun k => k < w4.heap.size) w4 A1 os := (hR1.keep ((k3.trans' k4).old _)).mono fun k hk _ => hk
  have hR2' : Rcs (fun k => k < w4.heap.size) w4 A2 ns := (hR2.keep (k4.old _)).mono fun k hk _ => hk
  have hR3' : Rcs (fun k => k < w4.heap.size) w4 A3 ms := hR3.mono fun k hk _ => hk
  clear hR1 hR2 hR3
  have hT4 := hT.keep (K4.old (fun _ => True)) trivial
  have hbg := begun_any w4 hT4 exJ0 ex_open
  have hws0 : exJ0.ws.length = 1 := rfl
  obtain ⟨j1, j3, hrw1, hws1, hrw3, hdj3, hC0⟩ := at_begin (ms := ms) hos hns
  generalize exJ0 = j0 at *
  go_wp2_with fail
  refine hbg.mono ?_
  rintro e w5 ⟨F, g, tt, vA, vB, vP, q, rfl, hL, hF, k5⟩
  clear hbg
  have z5 := k5.size
  have K5 := K4.trans' k5
  have hT5 := hT4.keep (k5.old (fun _ => True)) trivial
  have hre := rewrite_any w5 F (fun k => k < w4.heap.size) g vA vB vP q j0 A1 os.length c1 os hL (hR1'.keep (k5.old _)) (fun k h1 h2 => by have := hF k h2; omega) rfl hT5 (by omega)
  rw [hrw1] at hre
  clear hrw1
  go_wp2_with fail
  refine hre.mono ?_
  rintro e w6 ⟨rfl, F6, vP6, q6, hL6, hF6, k6⟩
  clear hre
  simp only at hL6
  have f6 : ∀ k, F6 k → w4.heap.size ≤ k := fun k h => by
    rcases hF6 k h with h | h
    · exact hF k h
    · omega
  have kk6 : Keeps (fun k => k < w4.heap.size) w4 w6 := ((k5.old _).trans k6 fun k _ h1 h2 => by have := hF k h2; omega)
  have z6 := k6.size
  have K6 : Old w w6 := K5.trans k6 fun k hk _ h => by have := hF k h; omega
  have hsy := lsync_any w6 F6 g vA vB vP6 q6 j1 hL6 (by omega)
  go_wp2_with fail
  refine hsy.mono ?_
  rintro e w7 ⟨rfl, F7, vA7, vB7, hL7, hF7, k7⟩
  clear hsy
  have f7 : ∀ k, F7 k → w4.heap.size ≤ k := fun k h => by
    rcases hF7 k h with h | h
    · exact f6 k h
    · omega
  have kk7 : Keeps (fun k => k < w4.heap.size) w4 w7 := (kk6.trans k7 fun k _ h1 h2 => by have := f6 k h2; omega)
  have z7 := k7.size
  have K7 : Old w w7 := K6.trans k7 fun k hk _ h => by have := f6 k h; omega
  have hT7 := hT.keep (K7.old (fun _ => True)) trivial
  have hre := rewrite_any w7 F7 (fun k => k < w4.heap.size) g vA7 vB7 (.slice none 0 0) [] (syncJ j1) A2 ns.length c2 ns hL7 (hR2'.keep kk7) (fun k h1 h2 => by have := f7 k h2; omega) rfl hT7 (by simp [syncJ])
  rw [hrw3] at hre
  clear hrw3
  go_wp2_with fail
  refine hre.mono ?_
  rintro e w8 ⟨rfl, F8, vP8, q8, hL8, hF8, k8⟩
  clear hre
  simp only at hL8
  have f8 : ∀ k, F8 k → w4.heap.size ≤ k := fun k h => by
    rcases hF8 k h with h | h
    · exact f7 k h
    · omega
  have kk8 : Keeps (fun k => k < w4.heap.size) w4 w8 := (kk7.trans k8 fun k _ h1 h2 => by have := f7 k h2; omega)
  have z8 := k8.size
  have K8 : Old w w8 := K7.trans k8 fun k hk _ h => by have := f7 k h; omega
  have hd := ldirty_any hL8 (by have := hC0.2.2.2.2.2.2.2.2.2; omega)
  obtain ⟨wh, hwh⟩ : ∃ wh, wh = 16 + sizeF ns := ⟨_, rfl⟩
  rw [hdj3, ← hwh] at hd
  clear hdj3
  go_wp2_with fail
  refine hd.mono ?_
  rintro e w9 ⟨rfl, k9⟩
  clear hd
  have z9 := k9.size
  have kk9 := kk8.trans' (k9.old _)
  have K9 := K8.trans' k9
  have hlt8 := hL8.lt
  have HS := hid (show InAt w w4.heap.size os ns ms g 0 (.slice A2 ns.length c2) w9 from ⟨ns, j3, F8, vA7, vB7, vP8, q8, A2, c2, hid (by simp), hC0, hL8.keep (k9.old _), f8, rfl, hc2', (hR2'.keep kk9).mono fun k _ h => ⟨by omega, fun h5 => by have := f8 k h5; omega⟩, K9⟩)
  have H9 := hid kk9
  have HW := hid hwh
  clear hC0 hL hL6 hL7 hL8 kk6 kk7 kk8 kk9 hc2' hwh hws0 hws1 hlt8 hF hF6 hF7 hF8 f6 f7 f8
  go_upto_region 12 with fail
  go_wp2_with fail
  go_loopw [10, 11] (fun lv i wr => ∃ k : Nat, i = .int .i64 k ∧ k ≤ ms.length ∧ Hid (InAt w w4.heap.size os ns ms g k lv wr) ∧ Hid (Keeps (fun k => k < w4.heap.size) w4 wr)) (fun _ i _ => ms.length - (intOf i).toNat)
  case atStart => exact ⟨0, rfl, Nat.zero_le _, HS, H9⟩
  case round =>
    clear HS H9
    obtain ⟨k, rfl, hk, hin, hkw⟩ := hrel
    obtain ⟨al, j, F6, vA6, vB6, vP6, q6, A6, c6, hal, hC, hL6, hF6, rfl, hc6, hR6, hold⟩ := hin.out
    have hws := hC.2.2.2.2.2.2.2.2.2
    have zr := hold.size
    have zk := hkw.out.size
    by_cases hlt : k < ms.length
    · obtain ⟨b, o, A', c', rfl, hSb, h0, h1, h2⟩ := (hR3'.keep hkw.out).at_ hlt
      obtain ⟨j', hap, hC'⟩ := at_step hns hms hlt hC
      have HC := hid hC'
      have HT := hid (show al ++ [ms[k]] = ns ++ ms.take (k + 1) by rw [hal.out, List.take_succ_eq_append_getElem hlt, List.append_assoc])
      have i1 : (0 : Int) ≤ (k : Int) := by omega
      have i2 : (k : Int) < (ms.length : Int) := by omega
      have ha7 := append_any wr F6 (fun k => k < w4.heap.size) g vA6 vB6 vP6 q6 j A' ms[k].length c' ms[k] hL6 h2 rfl (hT.keep (hold.old (fun _ => True)) trivial) (by omega)
      rw [hap] at ha7
      clear hC' hap hC
      have hL6n : al.length ≤ 1000 := by rw [hal.out]; simp; omega
      generalize ms[k] = rec at *
      go_wp2_with fail
      refine ha7.mono ?_
      rintro e w7' ⟨rfl, F7, vP7, q7, hL7, hF7, k7'⟩
      clear ha7
      simp only at hL7
      have z7' := k7'.size
      have hR7 : Rcs (fun k => k < w7'.heap.size ∧ ¬ F7 k) w7' A6 al := (hR6.keep (k7'.mono fun k _ h => h.2)).mono fun k' _ h => ⟨by omega, fun h7 => by
        rcases hF7 k' h7 with g' | g'
        · exact h.2 g'
        · omega⟩
      have h27 : Bts (fun k => k < w7'.heap.size ∧ ¬ F7 k) w7' A' rec := (h2.keep (k7'.mono fun k' _ h h6 => by have h' : k' < w4.heap.size := h; have := hF6 k' h6; omega)).mono fun k' _ h => ⟨by have h' : k' < w4.heap.size := h; omega, fun h7 => by
        have h' : k' < w4.heap.size := h
        rcases hF7 k' h7 with g' | g'
        · have := hF6 k' g'; omega
        · omega⟩
      have hpl := plus_any w7' _ A6 A' c6 c' al rec hR7 h27 h1 (fun k h => h.1) (by omega)
      have kk7' : Keeps (fun k => k < w4.heap.size) w4 w7' := hkw.out.trans k7' fun k' _ h1 h6 => by have := hF6 k' h6; omega
      have h07 : w7'.cell? ⟨b, o + k, none⟩ = some (.slice A' rec.length c') := (k7'.cell (lt_of_cell h0) (fun h6 => by have h' : b < w4.heap.size := hSb; have := hF6 b h6; omega)).trans h0
      have K7' : Old w w7' := hold.trans k7' fun k' hk' _ h6 => by have := hF6 k' h6; omega
      go_wp2_with fail
      refine hpl.mono ?_
      rintro e w8' ⟨L8, q8', rfl, hq8, hO8, k8'⟩
      clear hpl
      have HA8 := hid (hq8.trans HT.out)
      clear HT
      generalize al ++ [rec] = al8 at *
      have hn8 : q8'.length = al8.length := by rw [← hq8]; simp
      have hl8 : q8'.length ≤ 1000 := by
        have h := congrArg List.length HA8.out
        rw [List.length_map] at h
        rw [h]; simp; omega
      have HA := hid (hq8.symm.trans HA8.out)
      obtain ⟨A8, c8, hL8, hc8, hR8⟩ := hO8.rcs (by omega)
      rw [hn8] at hL8 hc8
      rw [hq8] at hR8
      subst hL8
      have z8' := k8'.size
      have hlt7 := hL7.lt
      have hR : InAt w w4.heap.size os ns ms g (k + 1) (.slice A8 al8.length c8) w8' := ⟨al8, j', F7, vA6, vB6, vP7, q7, A8, c8, HA, HC.out, hL7.keep (k8'.old _), fun k' h => by
          rcases hF7 k' h with g' | g'
          · exact hF6 k' g'
          · omega, rfl, hc8, hR8.mono fun k' hk' h => ⟨hk', fun h7 => by
          have := hlt7 k' h7
          rcases h with h | h
          · omega
          · exact h.2 h7⟩, K7'.trans' k8'⟩
      have HR := hid hR
      have HK := hid (kk7'.trans' (k8'.old _))
      clear hR kk7' hq8 hn8 hl8 hO8 hR8 hL7 hR7 h27 k7' k8' hL6 HA8 HA hal
      go_wp2
      exact ⟨⟨k + 1, by go_num, by omega, HR, HK⟩, by simp [intOf]; omega⟩
    · obtain rfl : k = ms.length := by omega
      have hal' := hal.out
      rw [List.take_length] at hal'
      have HA := hid hal'
      have i2 : ¬ ((ms.length : Nat) : Int) < (ms.length : Int) := by omega
      have hT6 := hT.keep (hold.old (fun _ => True)) trivial
      have hln : al.length ≤ 1000 := by rw [hal']; simp; omega
      have hsl : ∀ r ∈ al, r.length ≤ 65536 := fun r hr => by
        rw [hal'] at hr
        rcases List.mem_append.1 hr with hr | hr
        · have := size_mem hns r hr; omega
        · have := size_mem hms r hr; omega
      have hslb : ∀ r ∈ ns, r.length ≤ 65536 := fun r hr => by have := size_mem hns r hr; omega
      have hR6' : Rcs (fun _ => True) wr A6 al := hR6.mono fun _ _ _ => trivial
      have hN6 : Rcs (fun _ => True) wr A2 ns := (hR2'.keep hkw.out).mono fun _ _ _ => trivial
      have hO6 : Rcs (fun _ => True) wr A1 os := (hR1'.keep hkw.out).mono fun _ _ _ => trivial
      have hsal : sizeF al ≤ 600 := by have h := sizeF_append ns ms; rw [hal']; omega
      obtain ⟨dt, hdt⟩ : ∃ dt, dt = 16 + sizeF al := ⟨_, rfl⟩
      have hdj := at_dirty hC
      rw [List.take_length, ← hal', ← hdt] at hdj
      have hld : ∀ W, Old wr W → Calls Tryd.prog 23 #[.pointer (some ⟨g, 0, none⟩)] W fun e w' => e = .returned (.int .i64 (dt : Int)) ∧ Old W w' := fun W hW => by
        have h := ldirty_any (hL6.keep (hW.old _)) (by omega)
        rw [hdj] at h; exact h
      have hsz0 : ∀ W, Old wr W → ∀ (m c : Nat), m ≤ al.length → Calls Tryd.prog 27 #[.slice A6 m c] W fun e w' => e = .returned (.int .i64 ((16 + sizeF (al.take m) : Nat) : Int)) ∧ W = w' := fun W hW m c hm => by
        have h := size_any W _ A6 c (al.take m) ((hR6'.keep (hW.old _)).take m) (fun r hr => hsl r (List.mem_of_mem_take hr)) (by simp; omega)
        rw [List.length_take, Nat.min_eq_left hm] at h; exact h
      have hsz : Calls Tryd.prog 27 #[.slice A6 al.length c6] wr fun e w' => e = .returned (.int .i64 (dt : Int)) ∧ wr = w' := by
        have h := size_any wr _ A6 c6 al hR6' hsl (by omega)
        rw [← hdt] at h; exact h
      have hszn : Calls Tryd.prog 27 #[.slice A2 ns.length c2] wr fun e w' => e = .returned (.int .i64 (wh : Int)) ∧ wr = w' := by
        have h := size_any wr _ A2 c2 ns hN6 hslb (by omega)
        rw [← HW.out] at h; exact h
      have hop : ∀ W, Old wr W → ∀ (T : Nat → Prop) (vA vB : Value) (d : Dk) (r : Option (Jn × List (List UInt8))), OwnB T W vA d.1 → OwnB T W vB d.2 → openJ d = r → Calls Tryd.prog 32 #[.agg #[vA, vB]] W (PostLOpen W r) := fun W hW T vA vB d r hA hB hr => by
        obtain ⟨A8, c8, rfl, hc8, _⟩ := hA.slice
        obtain ⟨B8, d8, rfl, hd8, _⟩ := hB.slice
        have h := lopen_any W T A8 B8 d.1.length d.2.length c8 d8 d.1 d.2 hA.bts hB.bts rfl rfl hc8 hd8 (hT6.keep (hW.old (fun _ => True)) trivial)
        rw [show ((d.1, d.2) : Dk) = d from rfl, hr] at h
        exact h
      have hcr : ∀ W, Old wr W → ∀ keep : Nat, keep ≤ 1000 → Calls Tryd.prog 25 #[.pointer (some ⟨g, 0, none⟩), .int .i64 (keep : Int)] W (PostDisk W (crashJ j keep)) := fun W hW keep hk =>
        lcrash_any W F6 g vA6 vB6 vP6 q6 j keep (hL6.keep (hW.old _)) (by omega) (by omega) (by omega) (crashJ_len hL6.good keep)
      have hopn : ∀ keep : Nat, keep ≤ dt → (keep < wh ∧ ∃ j', openJ (crashJ j keep) = some (j', os)) ∨
          (wh ≤ keep ∧ ∃ m j', m ≤ ms.length ∧ openJ (crashJ j keep) = some (j', ns ++ ms.take m) ∧ 16 + sizeF (ns ++ ms.take m) ≤ keep ∧ (m = ms.length ∨ (m < ms.length ∧ keep < 16 + sizeF (ns ++ ms.take (m + 1))))) := fun keep hk => by
        have h := at_open (keep := keep) hos hns hms hC (by rw [← hal', ← hdt]; exact hk)
        rw [← HW.out] at h
        exact h
      have hdt6 : dt ≤ 616 := by omega
      have hwdt : wh ≤ dt := by have h := sizeF_append ns ms; rw [← hal'] at h; have := HW.out; omega
      have HOP := hid (And.intro hop (And.intro hcr hopn))
      have HSZ := hid hsz0
      have HDT := hid hdt
      have HRR := hid (And.intro hR6' (And.intro hN6 hO6))
      have HSL := hid hsl
      have HLD := hid hld
      have hl1 := hld wr (Keeps.refl _ _)
      clear hal hal' hC hin hop hcr hopn hsz0 hdt hR6' hN6 hO6 hsl hld hL6 hR6 hsal hslb hdj
      generalize crashJ j = cj at *
      go_wp2_with fail
      refine hszn.mono ?_
      rintro e w10 ⟨rfl, rfl⟩
      clear hszn
      go_wp2_with fail
      refine hl1.mono ?_
      rintro e w11 ⟨rfl, k11⟩
      clear hl1
      have hs2 := (HSZ.out w11 k11 al.length c6 (Nat.le_refl _))
      rw [List.take_length, ← HDT.out] at hs2
      go_wp2_with fail
      refine hs2.mono ?_
      rintro e w12 ⟨rfl, rfl⟩
      clear hs2 hsz
      go_upto_region 20 with fail
      obtain ⟨wz, hwz⟩ : ∃ wz, wz = wr := ⟨_, rfl⟩
      subst hwz
      have X11 := hid k11
      clear k11
      go_wp2_with fail
      go_loopw [12, 13, 14, 15] (fun v _ _ _ wx => ∃ k : Nat, v = .int .i64 k ∧ k ≤ dt + 1 ∧ Hid (Old wz wx)) (fun v _ _ _ _ => dt + 1 - (intOf v).toNat)
      case atStart => exact ⟨0, rfl, Nat.zero_le _, X11⟩
      case round =>
        obtain ⟨kp, rfl, hkp, hkx⟩ := hrel
        clear X11
        have hd1 := HLD.out _ hkx.out
        by_cases hle : kp ≤ dt
        · go_wp2_with fail
          refine hd1.mono ?_
          rintro e w13 ⟨rfl, k13⟩
          clear hd1
          have X13 := hkx.out.trans' k13
          have hcr := HOP.out.2.1 w13 X13 kp (by omega)
          rcases HOP.out.2.2 kp hle with ⟨hlw, j', hoj⟩ | ⟨hlw, m, j', hm, hoj, hse, hlast⟩
          · go_wp2_with fail
            refine hcr.mono ?_
            rintro e w14 ⟨vA, vB, rfl, hA, hB, _, k14⟩
            clear hcr
            have X14 := X13.trans' k14
            have hop := HOP.out.1 w14 X14 _ vA vB (cj kp) _ hA hB hoj
            clear hA hB
            go_wp2_with fail
            refine hop.mono ?_
            rintro e w15 ⟨F15, g15, a15, b15, p15, q15, L15, ql, rfl, _, _, hq15, hO15, k15⟩
            clear hop
            have hqn : ql.length = os.length := by have h := congrArg List.length hq15; rw [List.length_map] at h; exact h
            obtain ⟨A15, c15, rfl, hc15, hR15⟩ := hO15.rcs (by omega)
            rw [hqn] at hc15 ⊢
            rw [hq15] at hR15
            have X15 := X14.trans' k15
            have hli := lists_any w15 _ _ A15 A1 c15 c1 os os hR15 (HRR.out.2.2.keep (X15.old _))
            rw [decide_eq_true rfl] at hli
            clear hqn hO15 hq15 hR15
            go_wp2_with fail
            refine hli.mono ?_
            rintro e w16 ⟨rfl, n16, hw16⟩
            clear hli
            have X16 : Old wz w16 := X15.trans' (by rw [← hw16]; exact (Keeps.refl _ _).drewN _)
            clear hw16
            have HX := hid X16
            have i30 : ¬ wh ≤ kp := by omega
            clear X13 X14 X15 X16 k13 k14 k15
            go_wp2
            exact ⟨⟨kp + 1, by go_num, by omega, HX⟩, by simp [intOf]; omega⟩
          · obtain ⟨rs, hrs⟩ : ∃ rs, rs = ns ++ ms.take m := ⟨_, rfl⟩
            rw [← hrs] at hoj hse
            have hrl : rs.length = ns.length + m := by rw [hrs]; simp; omega
            have hal := congrArg List.length HA.out
            rw [List.length_append] at hal
            have ht0 : al.take rs.length = rs := by rw [HA.out, hrl, hrs]; simp [List.take_append]; exact List.take_of_length_le (by omega)
            have ht1 : al.take (rs.length + 1) = ns ++ ms.take (m + 1) := by rw [HA.out, hrl, Nat.add_assoc]; simp [List.take_append]; exact List.take_of_length_le (by omega)
            rw [← ht1] at hlast
            have hr1 : rs.length ≤ al.length := by omega
            have hr2 : ¬ rs.length < ns.length := by omega
            have hlast' : rs.length = al.length ∨ rs.length < al.length ∧ kp < 16 + sizeF (List.take (rs.length + 1) al) := by
              rcases hlast with h | h
              · left; omega
              · right; exact ⟨by omega, h.2⟩
            have HT0 := hid ht0
            have hcl : rs.length ≤ c6 := by omega
            obtain ⟨sr, hsr⟩ : ∃ sr, sr = 16 + sizeF rs := ⟨_, rfl⟩
            rw [← hsr] at hse
            have HR := hid hsr
            have i26 : ¬ kp < wh := by omega
            have i24 : ¬ kp < sr := by omega
            have hslr : ∀ r ∈ rs, r.length ≤ 65536 := fun r hr => HSL.out r (by rw [← ht0] at hr; exact List.mem_of_mem_take hr)
            have HSR := hid hslr
            clear hrs ht1 hrl hal hlast hm hsr ht0 hslr
            go_wp2_with fail
            refine hcr.mono ?_
            rintro e w14 ⟨vA, vB, rfl, hA, hB, _, k14⟩
            clear hcr
            have X14 := X13.trans' k14
            have hop := HOP.out.1 w14 X14 _ vA vB (cj kp) _ hA hB hoj
            clear hA hB
            go_wp2_with fail
            refine hop.mono ?_
            rintro e w15 ⟨F15, g15, a15, b15, p15, q15, L15, ql, rfl, _, _, hq15, hO15, k15⟩
            clear hop
            have hqn : ql.length = rs.length := by have h := congrArg List.length hq15; rw [List.length_map] at h; exact h
            obtain ⟨A15, c15, rfl, hc15, hR15⟩ := hO15.rcs (by omega)
            rw [hqn] at hc15 ⊢
            rw [hq15] at hR15
            have X15 := X14.trans' k15
            have hli := lists_any w15 _ _ A15 A6 c15 c6 rs (al.take rs.length) hR15 ((HRR.out.1.keep (X15.old _)).take _)
            rw [List.length_take, Nat.min_eq_left hr1, HT0.out, decide_eq_true rfl] at hli
            have hszr : ∀ W, Old w15 W → Calls Tryd.prog 27 #[.slice A15 rs.length c15] W fun e w' => e = .returned (.int .i64 (sr : Int)) ∧ W = w' := fun W hW => by
              have h := size_any W _ A15 c15 rs (hR15.keep (hW.old _)) HSR.out (by omega)
              rw [← HR.out] at h; exact h
            clear hqn hO15 hq15 hR15
            go_wp2_with fail
            refine hli.mono ?_
            rintro e w16 ⟨rfl, n16, hw16⟩
            clear hli
            have k16 : Old w15 w16 := by rw [← hw16]; exact (Keeps.refl _ _).drewN _
            clear hw16
            have h27 := hszr w16 k16
            have X16 := X15.trans' k16
            clear hszr
            go_wp2_with fail
            refine h27.mono ?_
            rintro e w17 ⟨rfl, rfl⟩
            clear h27
            have HX := hid X16
            rcases hlast' with hlast | ⟨hlast, hnx⟩
            · have hra : rs = al := by have h := HT0.out; rw [hlast, List.take_length] at h; exact h.symm
              subst hra
              clear hlast X13 X14 X15 X16 k13 k14 k15 k16
              go_wp2
              exact ⟨⟨kp + 1, by go_num, by omega, HX⟩, by simp [intOf]; omega⟩
            · obtain ⟨N1, hN1⟩ : ∃ N1, N1 = rs.length + 1 := ⟨_, rfl⟩
              have j26 : IntKind.i64.wrap ((rs.length : Int) + 1) = (N1 : Int) := by rw [IntKind.wrap_i64]; omega
              have h27 := HSZ.out w16 X16 N1 c6 (by omega)
              obtain ⟨s1, hs1⟩ : ∃ s1, s1 = 16 + sizeF (al.take N1) := ⟨_, rfl⟩
              rw [← hs1] at h27
              have i26' : kp < s1 := by rw [hs1, hN1]; exact hnx
              have i27 : ¬ s1 ≤ kp := by omega
              have hc6n : N1 ≤ c6 := by omega
              clear hs1 hnx hN1 X13 X14 X15 X16 k13 k14 k15 k16
              go_wp2_with fail
              refine h27.mono ?_
              rintro e w18 ⟨rfl, rfl⟩
              clear h27
              go_wp2
              exact ⟨⟨kp + 1, by go_num, by omega, HX⟩, by simp [intOf]; omega⟩
        · go_wp2_with fail
          refine hd1.mono ?_
          rintro e w13 ⟨rfl, k13⟩
          clear hd1
          have kend := (hold.trans' hkx.out).trans' k13
          go_wp2
          go_ret
          exact ⟨rfl, kend⟩
end Go.Proofs.YtdpaaoeipconcaaDoor
