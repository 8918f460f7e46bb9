/- weftlaw18.UnderTwo: two pairs of nets that take turns answer true. Conditions: the script and the marks can be read. -/
import Derived.Test.YtgnndggbjipioaaAHolds
namespace Go.Proofs.Ytgnndggbjipioaa
open Go.RowKit

/-- The slice at A reads as truths, in blocks that S lets. -/
def Trs (S : Nat → Prop) (w : World) (A : Option Addr) (bs : List Bool) : Prop :=
  bs.length ≤ 281474976710656 ∧ (bs ≠ [] → ∃ b o, A = some ⟨b, o, none⟩ ∧ S b ∧ ∀ j (h : j < bs.length), w.cell? ⟨b, o + j, none⟩ = some (.bool bs[j]))

theorem Trs.keep {S : Nat → Prop} {w w' : World} {A : Option Addr} {bs : List Bool} (h : Trs S w A bs) (hk : Keeps S w w') : Trs S w' A bs :=
  ⟨h.1, fun hn => by
    obtain ⟨b, o, e, hs, hc⟩ := h.2 hn
    exact ⟨b, o, e, hs, fun j hj => (hk.cell (lt_of_cell (hc j hj)) hs).trans (hc j hj)⟩⟩
theorem Trs.at_ {S : Nat → Prop} {w : World} {A : Option Addr} {bs : List Bool} (h : Trs S w A bs) {j : Nat} (hj : j < bs.length) : ∃ b o, A = some ⟨b, o, none⟩ ∧ S b ∧ w.cell? ⟨b, o + j, none⟩ = some (.bool bs[j]) := by
  obtain ⟨b, o, e, hs, hc⟩ := h.2 (by rintro rfl; simp at hj)
  exact ⟨b, o, e, hs, hc j hj⟩

set_option maxHeartbeats 400000 in
theorem begins_any (w : World) (S : Nat → Prop) (A : Option Addr) (c : Nat) (bs : List Bool) (hB : Trs S w A bs) :
    Calls Try.prog 23 #[.slice A bs.length c] w fun e w' => w' = w ∧ ∃ k : Nat, k ≤ bs.length ∧ e = .returned (.int .i64 k) := by
  have hl := hB.1
  go_enter Try.func23, Try.ntmps23
  go_wp2
  go_loopw [3] (fun v wr => ∃ k : Nat, v = .int .i64 k ∧ k ≤ bs.length ∧ wr = w) (fun v _ => bs.length - (intOf v).toNat)
  case atStart => exact ⟨0, rfl, by omega, rfl⟩
  case round =>
    obtain ⟨k, rfl, hk, rfl⟩ := hrel
    by_cases hlt : k < bs.length
    · obtain ⟨b, o, rfl, _, h1⟩ := hB.at_ hlt
      have i1 : (0 : Int) ≤ (k : Int) := by omega
      have i2 : (k : Int) < (bs.length : Int) := by omega
      generalize bs[k] = t at *
      cases t
      · go_wp2
        exact ⟨⟨k + 1, by go_num, by omega, by first | rfl | trivial⟩, by simp [intOf]; omega⟩
      · go_wp2
        go_ret
        exact ⟨rfl, k, by omega, rfl⟩
    · go_wp2
      go_ret
      exact ⟨rfl, bs.length, by omega, rfl⟩

theorem list6_any (w : World) (H : Nat → Prop) (gn gm lim : Nat) (hT : Twin H w gn gm lim) :
    Calls Try.prog 24 #[.pointer (some ⟨gn, 0, none⟩), .pointer (some ⟨gm, 0, none⟩), .agg #[.int .i64 6, .slice none 0 0, .int .i64 0, .int .i64 0, .int .u8 0]] w (PostPlays H w gn gm lim) :=
  plays_any w H (fun _ => False) gn gm lim 6 0 0 0 none 0 [] hT ⟨by simp, fun h => absurd rfl h⟩ (fun _ h => h.elim)

/-- Two pairs stand apart, over what was there. -/
def Pair (w wr : World) (H K : Nat → Prop) (gn gm ln hn hm lh : Nat) : Prop :=
  Twin H wr gn gm ln ∧ Twin K wr hn hm lh ∧ (∀ j, H j → ¬ K j) ∧ (∀ j, H j → w.heap.size ≤ j) ∧ (∀ j, K j → w.heap.size ≤ j) ∧ Old w wr

theorem Pair.swap {w wr : World} {H K : Nat → Prop} {gn gm ln hn hm lh : Nat} (h : Pair w wr H K gn gm ln hn hm lh) : Pair w wr K H hn hm lh gn gm ln :=
  ⟨h.2.1, h.1, fun j hk hh => h.2.2.1 j hh hk, h.2.2.2.2.1, h.2.2.2.1, h.2.2.2.2.2⟩

theorem Pair.old {w wr w' : World} {H K : Nat → Prop} {gn gm ln hn hm lh : Nat} (h : Pair w wr H K gn gm ln hn hm lh) (hk : Old wr w') : Pair w w' H K gn gm ln hn hm lh :=
  ⟨h.1.keep (hk.old _), h.2.1.keep (hk.old _), h.2.2.1, h.2.2.2.1, h.2.2.2.2.1, h.2.2.2.2.2.trans' hk⟩

theorem Pair.step {w wr w' : World} {H K H' : Nat → Prop} {gn gm ln hn hm lh : Nat} (h : Pair w wr H K gn gm ln hn hm lh)
    (hT : Twin H' w' gn gm ln) (hH : ∀ k, H' k → H k ∨ wr.heap.size ≤ k) (hK : Keeps (fun k => ¬ H k) wr w') : Pair w w' H' K gn gm ln hn hm lh := by
  obtain ⟨h1, h2, h3, h4, h5, h6⟩ := h
  have hz := h6.size
  refine ⟨hT, h2.keep (hK.mono fun k _ hk hh => h3 k hh hk), fun j hj hk => ?_, fun j hj => ?_, h5, h6.trans hK fun j hj _ hh => by have := h4 j hh; omega⟩
  · rcases hH j hj with h | h
    · exact h3 j h hk
    · have := h2.lt j hk; omega
  · rcases hH j hj with h | h
    · exact h4 j h
    · omega

def InTwo (w : World) (gn gm ln hn hm lh : Nat) (v : Value) (wr : World) : Prop := ∃ (k : Nat) (H K : Nat → Prop), v = .int .i64 k ∧ Pair w wr H K gn gm ln hn hm lh

set_option maxRecDepth 10000 in
set_option maxHeartbeats 4000000 in
theorem two_any (w : World) (S : Nat → Prop) (l1 l2 : Int) (A B : Option Addr) (c d : Nat) (l : List OpD) (bs : List Bool) (hO : Ops S w A l) (hB : Trs S w B bs) (hS : ∀ k, S k → k < w.heap.size) :
    Calls Try.prog 10 #[.int .i64 l1, .int .i64 l2, .slice A l.length c, .slice B bs.length d] w fun e w' => e = .returned (.bool true) ∧ Old w w' := by
  have hb := both_any w l1
  unfold PostBoth at hb
  have hl0 := hO.1
  have hb0 := hB.1
  have hS' : ∀ (wr : World) (H : Nat → Prop), Old w wr → (∀ k, H k → w.heap.size ≤ k) → ∀ k, S k → k < wr.heap.size ∧ ¬ H k := fun wr H h1 h2 k hk => by
    have := hS k hk
    have := h1.size
    exact ⟨by omega, fun h => by have := h2 k h; omega⟩
  by_cases hl : 1 ≤ l1 ∧ l1 ≤ 4096
  · simp only [if_pos hl] at hb
    go_enter Try.func10, Try.ntmps10
    go_wp2_with fail
    refine hb.mono ?_
    rintro e w1 ⟨k1, gn, gm, H, rfl, hT, hH⟩
    clear hb
    go_wp2_with fail
    refine (first_any w1).mono ?_
    rintro e w2 ⟨rfl, k2⟩
    go_wp2_with fail
    refine (begins_any w2 S B d bs (hB.keep ((k1.trans' k2).old _))).mono ?_
    rintro e w3 ⟨rfl, st, hst, rfl⟩
    go_wp2
    have hT2 := hT.keep (k2.old _)
    go_loopw [13] (fun v wr => ∃ (k : Nat) (H' : Nat → Prop), v = .int .i64 k ∧ k ≤ l.length ∧ Twin H' wr gn gm l1.toNat ∧ Old w wr ∧ ∀ k, H' k → w.heap.size ≤ k) (fun v _ => l.length - (intOf v).toNat)
    case atStart => exact ⟨0, H, rfl, by omega, hT2, k1.trans' k2, hH⟩
    case round =>
      obtain ⟨k, H', rfl, hk, hTr, hold, hHr⟩ := hrel
      by_cases hlt : k < l.length ∧ k < st
      · obtain ⟨hlt, hlt2⟩ := hlt
        obtain ⟨b, o, A', c', rfl, hSb, h0, h1, h2, h3, h4, hc, hP⟩ := (hO.keep (hold.old _)).at_ (j := k) hlt
        generalize l[k] = x at *
        have i1 : (0 : Int) ≤ (k : Int) := by omega
        have i2 : (k : Int) < (l.length : Int) := by omega
        have i3 : (k : Int) < (st : Int) := by omega
        go_wp2_with fail
        refine (plays_any wr H' S gn gm l1.toNat x.kind x.i x.at_ x.mask A' c' x.sents hTr hP (hS' _ _ hold hHr)).mono ?_
        rintro e w3 ⟨rfl, H3, hT3, hH3, hK3⟩
        go_wp2
        refine ⟨⟨k + 1, H3, by go_num, by omega, hT3, hold.trans hK3 (fun j hj _ h => by have := hHr j h; omega), fun j h => by
          have := hold.size
          rcases hH3 j h with h | h
          · exact hHr j h
          · omega⟩, by simp [intOf]; omega⟩
      · have hex : (¬ (k : Int) < (l.length : Int)) ∨ ((k : Int) < (l.length : Int) ∧ ¬ (k : Int) < (st : Int)) := by omega
        clear hlt hT hT2 hk hH k2 k1
        by_cases hl2 : 1 ≤ l2 ∧ l2 ≤ 4096
        · have hb2 : ∀ w, Calls Try.prog 20 #[.int .i64 l2] w (fun e w' => Old w w' ∧ ∃ gn gm H, e = .returned (.tuple #[.pointer (some ⟨gn, 0, none⟩), .pointer (some ⟨gm, 0, none⟩), .bool true]) ∧ Twin H w' gn gm l2.toNat ∧ ∀ k, H k → w.heap.size ≤ k) := fun w => by
            have h := both_any w l2
            unfold PostBoth at h
            simpa only [if_pos hl2] using h
          clear hl2
          have HB2 := hid hb2
          clear hb2
          rcases hex with hex | ⟨hex, hex2⟩ <;> (
            go_wp2_with fail
            refine (HB2.out wr).mono ?_
            rintro e w4 ⟨k4, hn, hm, K, rfl, hTK, hK⟩
            have hz := hold.size
            have hP : Pair w w4 H' K gn gm l1.toNat hn hm l2.toNat := ⟨hTr.keep (k4.old _), hTK, fun j h1 h2 => by have := hTr.lt j h1; have := hK j h2; omega, hHr, fun j h => by have := hK j h; omega, hold.trans' k4⟩
            clear k4 hTr hTK hK hold hHr hz
            go_wp2_with fail
            refine (list6_any w4 H' gn gm l1.toNat hP.1).mono ?_
            rintro e w5 ⟨rfl, H5, hT5, hH5, hK5⟩
            have hP5 := hP.step hT5 hH5 hK5
            clear hP hT5 hH5 hK5
            clear hex
            try clear hex2
            go_wp2
            go_loopw [17] (fun v wr => InTwo w gn gm l1.toNat hn hm l2.toNat v wr) (fun v _ => l.length - (intOf v).toNat)
            case atStart => exact ⟨st, H5, K, rfl, hP5⟩
            case round =>
              clear hP5
              obtain ⟨k, H, K, rfl, hP⟩ := hrel
              have hold := hP.2.2.2.2.2
              by_cases hlt : k < l.length
              · obtain ⟨b, o, A', c', rfl, hSb, g0, g1, g2, g3, g4, hc, gP⟩ := hO.at_ (j := k) hlt
                generalize l[k] = x at *
                have all : ∀ w', Old w w' → w'.cell? ⟨b, o + k * 5, none⟩ = some (.int .i64 x.kind) ∧ w'.cell? ⟨b, o + k * 5 + 1, none⟩ = some (.slice A' x.sents.length c') ∧ w'.cell? ⟨b, o + k * 5 + 2, none⟩ = some (.int .i64 x.i) ∧
                    w'.cell? ⟨b, o + k * 5 + 3, none⟩ = some (.int .i64 x.at_) ∧ w'.cell? ⟨b, o + k * 5 + 4, none⟩ = some (.int .u8 x.mask.toNat) ∧ Pks S w' A' x.sents :=
                  fun w' h => ⟨(h.cell (lt_of_cell g0) trivial).trans g0, (h.cell (lt_of_cell g1) trivial).trans g1, (h.cell (lt_of_cell g2) trivial).trans g2, (h.cell (lt_of_cell g3) trivial).trans g3, (h.cell (lt_of_cell g4) trivial).trans g4, gP.keep (h.old _)⟩
                have ALL := hid all
                clear g0 g1 g2 g3 g4 gP all
                obtain ⟨h0, h1, h2, h3, h4, hPk⟩ := ALL.out wr hold
                have i1 : (0 : Int) ≤ (k : Int) := by omega
                have i2 : (k : Int) < (l.length : Int) := by omega
                by_cases hm : ∃ h : k < bs.length, bs[k] = true
                · obtain ⟨hkb, hbt⟩ := hm
                  obtain ⟨b', o', rfl, hSb', u0⟩ := (hB.keep (hold.old _)).at_ (j := k) hkb
                  rw [hbt] at u0
                  clear hbt
                  have i3 : (k : Int) < (bs.length : Int) := by omega
                  go_wp2_with fail
                  refine (plays_any wr K S hn hm l2.toNat x.kind x.i x.at_ x.mask A' c' x.sents hP.2.1 hPk (hS' _ _ hold hP.2.2.2.2.1)).mono ?_
                  rintro e w6 ⟨rfl, K6, hT6, hK6, hKe6⟩
                  have hP6 := (hP.swap.step hT6 hK6 hKe6).swap
                  clear hT6 hK6 hKe6 h0 h1 h2 h3 h4 u0 hPk
                  have k6 := hP6.2.2.2.2.2
                  go_wp2_with fail
                  refine (HB2.out w6).mono ?_
                  rintro e w7 ⟨k7, tn, tm, T, rfl, hTT, hTl⟩
                  obtain ⟨h0, h1, h2, h3, h4, hPk⟩ := ALL.out w7 (k6.trans' k7)
                  have hz6 := k6.size
                  go_wp2_with fail
                  refine (plays_any w7 T S tn tm l2.toNat x.kind x.i x.at_ x.mask A' c' x.sents hTT hPk (hS' _ _ (k6.trans' k7) fun j h => by have := hTl j h; omega)).mono ?_
                  rintro e w8 ⟨rfl, T8, _, _, hKe8⟩
                  have k8 : Old w6 w8 := k7.trans hKe8 fun j hj _ h => by have := hTl j h; omega
                  go_wp2
                  exact ⟨⟨k + 1, H, K6, by go_num, hP6.old k8⟩, by simp [intOf]; omega⟩
                · have go : ∀ (P : Prop), ((k : Int) < (bs.length : Int) → (∃ b o, B = some ⟨b, o, none⟩ ∧ wr.cell? ⟨b, o + k, none⟩ = some (.bool false)) → P) → (¬ (k : Int) < (bs.length : Int) → P) → P := fun P hy hn => by
                    by_cases hkb : k < bs.length
                    · have hbf : bs[k] = false := by
                        cases h : bs[k]
                        · rfl
                        · exact absurd ⟨hkb, h⟩ hm
                      obtain ⟨b', o', rfl, _, u0⟩ := (hB.keep (hold.old _)).at_ (j := k) hkb
                      rw [hbf] at u0
                      exact hy (by omega) ⟨_, _, rfl, u0⟩
                    · exact hn (by omega)
                  clear hm
                  refine go _ (fun i3 hu => ?_) (fun i3 => ?_) <;> (
                    try obtain ⟨b', o', rfl, u0⟩ := hu
                    clear go
                    go_wp2_with fail
                    refine (plays_any wr H S gn gm l1.toNat x.kind x.i x.at_ x.mask A' c' x.sents hP.1 hPk (hS' _ _ hold hP.2.2.2.1)).mono ?_
                    rintro e w6 ⟨rfl, H6, hT6, hH6, hKe6⟩
                    have hP6 := hP.step hT6 hH6 hKe6
                    go_wp2
                    exact ⟨⟨k + 1, H6, K, by go_num, hP6⟩, by simp [intOf]; omega⟩)
              · go_wp2_with fail
                refine (list6_any wr H gn gm l1.toNat hP.1).mono ?_
                rintro e w6 ⟨rfl, H6, hT6, hH6, hK6⟩
                have hP6 := hP.step hT6 hH6 hK6
                go_wp2_with fail
                refine (list6_any w6 K hn hm l2.toNat hP6.2.1).mono ?_
                rintro e w7 ⟨rfl, H7, hT7, hH7, hK7⟩
                have hP7 := hP6.swap.step hT7 hH7 hK7
                go_wp2
                go_ret
                exact ⟨rfl, hP7.2.2.2.2.2⟩)
        · have hb2 : ∀ w, Calls Try.prog 20 #[.int .i64 l2] w (fun e w' => Old w w' ∧ e = .returned (.tuple #[.pointer none, .pointer none, .bool true])) := fun w => by
            have h := both_any w l2
            unfold PostBoth at h
            simpa only [if_neg hl2] using h
          clear hl2
          have HB2 := hid hb2
          clear hb2
          rcases hex with hex | ⟨hex, hex2⟩ <;> (
            go_wp2_with fail
            refine (HB2.out wr).mono ?_
            rintro e w4 ⟨k4, rfl⟩
            go_wp2_with fail
            refine (list6_any w4 H' gn gm l1.toNat (hTr.keep (k4.old _))).mono ?_
            rintro e w5 ⟨rfl, H5, hT5, hH5, hK5⟩
            go_wp2
            go_ret
            exact ⟨rfl, (hold.trans' k4).trans hK5 fun j hj _ h => by have := hHr j h; omega⟩)
  · simp only [if_neg hl] at hb
    go_enter Try.func10, Try.ntmps10
    go_wp2_with fail
    refine hb.mono ?_
    rintro e w1 ⟨k1, rfl⟩
    clear hb
    go_wp2_with fail
    refine (first_any w1).mono ?_
    rintro e w2 ⟨rfl, k2⟩
    go_wp2
    go_ret
    exact ⟨rfl, k1.trans' k2⟩
end Go.Proofs.Ytgnndggbjipioaa
