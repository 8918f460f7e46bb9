/- weftlaw18.framed, UnderFrame: each step does what it says and nothing else: true. Conditions: the script can be read. -/
import Derived.Test.YtgnndggbjipioaaAFspoil2
import Derived.Test.YtgnndggbjipioaaAHolds
namespace Go.Proofs.Ytgnndggbjipioaa
open Go.RowKit

theorem Bts.bound {S : Nat → Prop} {w : World} {A : Option Addr} {bs : List UInt8} (h : Bts S w A bs) : Bts (fun k => S k ∧ k < w.heap.size) w A bs :=
  ⟨h.1, fun hn => by
    obtain ⟨b, o, e, hs, hc⟩ := h.2 hn
    have h0 : 0 < bs.length := List.length_pos_iff.2 hn
    exact ⟨b, o, e, ⟨hs, lt_of_cell (hc 0 h0)⟩, hc⟩⟩
theorem Pks.bound {S : Nat → Prop} {w : World} {A : Option Addr} {ps : List Pk} (h : Pks S w A ps) : Pks (fun k => S k ∧ k < w.heap.size) w A ps :=
  ⟨h.1, fun hn => by
    obtain ⟨b, o, e, hs, hc⟩ := h.2 hn
    have h0 : 0 < ps.length := List.length_pos_iff.2 hn
    obtain ⟨_, _, g0, _⟩ := hc 0 h0
    exact ⟨b, o, e, ⟨hs, lt_of_cell g0⟩, fun i hi => by
      obtain ⟨A', c', g0, g1, g2, g3⟩ := hc i hi
      exact ⟨A', c', g0, g1, g2, g3.bound⟩⟩⟩

set_option maxRecDepth 10000 in
set_option maxHeartbeats 4000000 in
theorem framed_put (w : World) (F S : Nat → Prop) (g lim : Nat) (ps ss : List Pk) (i at_ : Int) (m : UInt8) (A : Option Addr) (c : Nat) (hN : NetU F w g lim ps) (hr : Pks S w A ss) (hc : ss.length ≤ c) (hS : ∀ k, S k → k < w.heap.size ∧ ¬ F k) :
    Calls Try.prog 26 #[.pointer (some ⟨g, 0, none⟩), .agg #[.int .i64 1, .slice A ss.length c, .int .i64 i, .int .i64 at_, .int .u8 m.toNat], .int .i64 (lim : Int)] w (PostFr F w g lim) := by
  have k0 : Old w (w.alloc (.cells #[.int .i64 1, .slice A ss.length c, .int .i64 i, .int .i64 at_, .int .u8 m.toNat] 36)) := (Keeps.refl _ _).alloc _
  have hbx : (w.alloc (.cells #[.int .i64 1, .slice A ss.length c, .int .i64 i, .int .i64 at_, .int .u8 m.toNat] 36)).heap[w.heap.size]? = some (.cells #[.int .i64 1, .slice A ss.length c, .int .i64 i, .int .i64 at_, .int .u8 m.toNat] 36 (0, 0)) := heap_alloc_new _ _
  have hFlt := hN.lt
  have hroom := hN.room
  have hmost := hN.most
  have hps : ps.length ≤ 4096 := by omega
  go_enter Try.func26, Try.ntmps26
  go_wp2_with fail
  refine (list_net (hN.keep (k0.old F))).mono ?_
  rintro e w1 ⟨A1, c1, rfl, hc1, hP1, k1⟩
  have k01 := k0.trans' k1
  have hb1 := k1.heap hbx trivial
  have x0 : w1.cell? ⟨w.heap.size, 0, none⟩ = some (.int .i64 1) := cell_of_heap hb1
  have x1 : w1.cell? ⟨w.heap.size, 1, none⟩ = some (.slice A ss.length c) := cell_of_heap hb1
  have x2 : w1.cell? ⟨w.heap.size, 2, none⟩ = some (.int .i64 i) := cell_of_heap hb1
  have hz := k01.size
  have ht := aput_any w1 F S _ g lim ps ss A1 A c1 c (hN.keep (k01.old F)) hP1.bound (hr.keep (k01.old S)) hc1 hc (fun k h => ⟨by have := (hS k h).1; omega, (hS k h).2⟩) (fun k h => ⟨h.2, fun hf => by have := hFlt k hf; have := h.1; simp at this; omega⟩)
  have hend : ∀ e w', PostFr F w1 g lim e w' → PostFr F w g lim e w' := by
    rintro e w' ⟨h1, F', ps', h2, h3, h4⟩
    exact ⟨h1, F', ps', h2, fun k h => (h3 k h).imp id fun h => by omega, (k01.old _).trans' h4⟩
  clear hz hFlt hroom hmost hS hN hr
  (go_wp2_with fail) <;> (
    refine ht.mono ?_
    rintro e w2 h2
    obtain ⟨rfl, h2⟩ := h2
    have h3 := hend (.returned (.bool true)) w2 ⟨rfl, h2⟩
    clear h2 ht hend hP1
    go_wp2
    go_ret
    exact h3)

set_option maxRecDepth 10000 in
set_option maxHeartbeats 4000000 in
theorem framed_other (w : World) (F : Nat → Prop) (g lim : Nat) (ps : List Pk) (kind i at_ : Int) (m : UInt8) (A : Option Addr) (n c : Nat) (hN : NetU F w g lim ps) (h1 : kind ≠ 1) (h2 : kind ≠ 2) (h3 : kind ≠ 3) (h4 : kind ≠ 4) (h5 : kind ≠ 5) :
    Calls Try.prog 26 #[.pointer (some ⟨g, 0, none⟩), .agg #[.int .i64 kind, .slice A n c, .int .i64 i, .int .i64 at_, .int .u8 m.toNat], .int .i64 (lim : Int)] w (PostFr F w g lim) := by
  have k0 : Old w (w.alloc (.cells #[.int .i64 kind, .slice A n c, .int .i64 i, .int .i64 at_, .int .u8 m.toNat] 36)) := (Keeps.refl _ _).alloc _
  have hbx : (w.alloc (.cells #[.int .i64 kind, .slice A n c, .int .i64 i, .int .i64 at_, .int .u8 m.toNat] 36)).heap[w.heap.size]? = some (.cells #[.int .i64 kind, .slice A n c, .int .i64 i, .int .i64 at_, .int .u8 m.toNat] 36 (0, 0)) := heap_alloc_new _ _
  have hroom := hN.room
  have hmost := hN.most
  have hps : ps.length ≤ 4096 := by omega
  have b1 : (kind == 1) = false := ne_int h1
  have b2 : (kind == 2) = false := ne_int h2
  have b3 : (kind == 3) = false := ne_int h3
  have b4 : (kind == 4) = false := ne_int h4
  have b5 : (kind == 5) = false := ne_int h5
  clear h1 h2 h3 h4 h5
  go_enter Try.func26, Try.ntmps26
  go_wp2_with fail
  refine (list_net (hN.keep (k0.old F))).mono ?_
  rintro e w1 ⟨A1, c1, rfl, hc1, hP1, k1⟩
  have k01 := k0.trans' k1
  have hb1 := k1.heap hbx trivial
  have x0 : w1.cell? ⟨w.heap.size, 0, none⟩ = some (.int .i64 kind) := cell_of_heap hb1
  have x2 : w1.cell? ⟨w.heap.size, 2, none⟩ = some (.int .i64 i) := cell_of_heap hb1
  have hl := list_net (hN.keep (k01.old F))
  (go_wp2_with fail) <;> (
    refine hl.mono ?_
    rintro e w2 ⟨A2, c2, rfl, hc2, hP2, k2⟩
    have hsm := sents_any w2 _ _ A1 A2 c1 c2 ps ps (hP1.keep (k2.old _)) hP2
    rw [decide_eq_true (show ps = ps from rfl)] at hsm
    go_wp2_with fail
    refine hsm.mono ?_
    rintro e w6 ⟨rfl, n2, rfl⟩
    go_wp2
    go_ret
    have kk : Old w (w2.drewN n2) := (k01.trans' k2).trans' ((Keeps.refl _ _).drewN _)
    exact ⟨rfl, F, ps, hN.keep (kk.old F), fun k h => .inl h, kk.old _⟩)

theorem framed_any (w : World) (F S : Nat → Prop) (g lim : Nat) (ps ss : List Pk) (kind i at_ : Int) (m : UInt8) (A : Option Addr) (c : Nat) (hN : NetU F w g lim ps) (hr : Pks S w A ss) (hc : ss.length ≤ c) (hS : ∀ k, S k → k < w.heap.size ∧ ¬ F k) :
    Calls Try.prog 26 #[.pointer (some ⟨g, 0, none⟩), .agg #[.int .i64 kind, .slice A ss.length c, .int .i64 i, .int .i64 at_, .int .u8 m.toNat], .int .i64 (lim : Int)] w (PostFr F w g lim) := by
  by_cases h1 : kind = 1
  · subst h1; exact framed_put w F S g lim ps ss i at_ m A c hN hr hc hS
  have hcase : i < 0 ∨ (∃ j : Nat, i = j ∧ ¬ j < ps.length) ∨ ∃ j : Nat, i = j ∧ j < ps.length := by
    rcases Int.lt_or_le i 0 with h | h
    · exact .inl h
    · by_cases h2 : i.toNat < ps.length
      · exact .inr (.inr ⟨i.toNat, by omega, h2⟩)
      · exact .inr (.inl ⟨i.toNat, by omega, h2⟩)
  by_cases h2 : kind = 2
  · subst h2
    rcases hcase with h | ⟨j, rfl, h⟩ | ⟨j, rfl, h⟩
    · exact framed_take_neg w F g lim ps i at_ m A _ c hN h
    · exact framed_take_big w F g lim ps j at_ m A _ c hN h
    · exact framed_take_yes w F g lim ps j at_ m A _ c hN h
  by_cases h3 : kind = 3
  · subst h3
    rcases hcase with h | ⟨j, rfl, h⟩ | ⟨j, rfl, h⟩
    · exact framed_copy_neg w F g lim ps i at_ m A _ c hN h
    · exact framed_copy_big w F g lim ps j at_ m A _ c hN h
    · by_cases hf : lim ≤ ps.length
      · exact framed_copy_full w F g lim ps j at_ m A _ c hN h hf
      · exact framed_copy_yes w F g lim ps j at_ m A _ c hN h hf
  by_cases h4 : kind = 4
  · subst h4
    rcases hcase with h | ⟨j, rfl, h⟩ | ⟨j, rfl, h⟩
    · exact framed_lose_neg w F g lim ps i at_ m A _ c hN h
    · exact framed_lose_big w F g lim ps j at_ m A _ c hN h
    · exact framed_lose_yes w F g lim ps j at_ m A _ c hN h
  by_cases h5 : kind = 5
  · subst h5
    rcases hcase with h | ⟨j, rfl, h⟩ | ⟨j, rfl, h⟩
    · exact framed_spoil_neg w F g lim ps i at_ m A _ c hN h
    · exact framed_spoil_big w F g lim ps j at_ m A _ c hN h
    · by_cases ha : at_ < 0
      · exact framed_spoilat_neg w F g lim ps j at_ m A _ c hN h ha
      · obtain ⟨a, rfl⟩ := Int.eq_ofNat_of_zero_le (show 0 ≤ at_ by omega)
        by_cases hb : a < ps[j].2.length
        · by_cases hm : m = 0
          · exact framed_spoilat_zero w F g lim ps j a m A _ c hN h hb hm
          · exact framed_spoil_yes w F g lim ps j a m A _ c hN h ps[j].1 ps[j].2 rfl hb hm
        · exact framed_spoilat_big w F g lim ps j a m A _ c hN h hb
  exact framed_other w F g lim ps kind i at_ m A _ c hN h1 h2 h3 h4 h5

set_option maxHeartbeats 1000000 in
theorem frame_any (w : World) (S : Nat → Prop) (lim : Int) (A : Option Addr) (c : Nat) (l : List OpD) (hO : Ops S w A l) (hS : ∀ k, S k → k < w.heap.size) :
    Calls Try.prog 11 #[.int .i64 lim, .slice A l.length c] w fun e w' => e = .returned (.bool true) ∧ Old w w' := by
  have hu := unew_any w lim
  unfold PostUNew at hu
  have hl0 := hO.1
  by_cases hl : 1 ≤ lim ∧ lim ≤ 4096
  · simp only [if_pos hl] at hu
    obtain ⟨lm, rfl⟩ := Int.eq_ofNat_of_zero_le (show 0 ≤ lim by omega)
    obtain ⟨l1, l2⟩ := hl
    go_enter Try.func11, Try.ntmps11
    go_wp2_with fail
    refine hu.mono ?_
    rintro e w1 ⟨k1, rfl, hU⟩
    clear hu
    go_wp2_with fail
    refine (first_any w1).mono ?_
    rintro e w2 ⟨rfl, k2⟩
    have hN : NetU (fun k => k = w.heap.size) w2 w.heap.size lm [] := ⟨_, _, (by simpa using hU.keep (k2.old _)), rfl⟩
    go_wp2
    go_loopw [7] (fun v wr => ∃ (k : Nat) (F : Nat → Prop) (ps : List Pk), v = .int .i64 k ∧ k ≤ l.length ∧ NetU F wr w.heap.size lm ps ∧ Old w wr ∧ ∀ k, F k → w.heap.size ≤ k) (fun v _ => l.length - (intOf v).toNat)
    case atStart => exact ⟨0, _, [], rfl, by omega, hN, k1.trans' k2, fun k h => by omega⟩
    case round =>
      obtain ⟨k, F, ps, rfl, hk, hNr, hold, hFl⟩ := hrel
      by_cases hlt : k < l.length
      · obtain ⟨b, o, A', c', rfl, hSb, h0, h1, h2, h3, h4, hc, hP⟩ := (hO.keep (hold.old _)).at_ (j := k) hlt
        generalize l[k] = x at *
        have i1 : (0 : Int) ≤ (k : Int) := by omega
        have i2 : (k : Int) < (l.length : Int) := by omega
        have hz := hold.size
        have hf := framed_any wr F S w.heap.size lm ps x.sents x.kind x.i x.at_ x.mask A' c' hNr hP hc (fun j hj => ⟨by have := hS j hj; omega, fun h => by have := hS j hj; have := hFl j h; omega⟩)
        go_wp2_with fail
        refine hf.mono ?_
        clear hf
        rintro e w3 ⟨rfl, F3, ps3, hN3, hF3, hK3⟩
        go_wp2
        refine ⟨⟨k + 1, F3, ps3, by go_num, by omega, hN3, hold.trans hK3 (fun j hj _ h => by have := hFl j h; omega), fun j h => by
          rcases hF3 j h with h | h
          · exact hFl j h
          · omega⟩, by simp [intOf]; omega⟩
      · go_wp2
        go_ret
        exact ⟨rfl, hold⟩
  · simp only [if_neg hl] at hu
    have hcase : lim < 1 ∨ 4096 < lim := by omega
    clear hl
    rcases hcase with hl | hl <;> (
      go_enter Try.func11, Try.ntmps11
      go_wp2_with fail
      refine hu.mono ?_
      rintro e w1 ⟨k1, rfl⟩
      clear hu
      go_wp2_with fail
      refine (first_any w1).mono ?_
      rintro e w2 ⟨rfl, k2⟩
      have i1 : lim ≥ 1 ∨ lim < 1 := by omega
      go_wp2
      go_ret
      exact ⟨rfl, k1.trans' k2⟩)
end Go.Proofs.Ytgnndggbjipioaa
