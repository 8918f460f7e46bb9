/- weftlaw18.holds: a script played on both nets answers alike at every step. Condition: the script can be read. -/
import Derived.Test.YtgnndggbjipioaaAFirst
namespace Go.Proofs.Ytgnndggbjipioaa
open Go.RowKit

set_option maxHeartbeats 1000000 in
theorem holds_any (w : World) (S : Nat → Prop) (lim lo hi : Int) (A : Option Addr) (c : Nat) (l : List OpD) (hO : Ops S w A l) (hS : ∀ k, S k → k < w.heap.size) :
    Calls Try.prog 22 #[.int .i64 lim, .slice A l.length c, .int .i64 lo, .int .i64 hi] w fun e w' => e = .returned (.bool true) ∧ Old w w' := by
  have hb := both_any w lim
  unfold PostBoth at hb
  have hl0 := hO.1
  by_cases hl : 1 ≤ lim ∧ lim ≤ 4096
  · simp only [if_pos hl] at hb
    go_enter Try.func22, Try.ntmps22
    go_wp2_with fail
    refine hb.mono ?_
    rintro e w1 ⟨k1, gn, gm, H, rfl, hT, hH⟩
    clear hb
    go_wp2_with fail
    refine (first_any w1).mono ?_
    rintro e w2 ⟨rfl, k2⟩
    go_wp2
    have hT2 := hT.keep (k2.old _)
    have hO2 := hO.keep ((k1.trans' k2).old _)
    go_loopw [12] (fun v wr => ∃ (k : Nat) (H' : Nat → Prop), v = .int .i64 k ∧ k ≤ l.length ∧ Twin H' wr gn gm lim.toNat ∧ Ops S wr A l ∧ Old w wr ∧ ∀ k, H' k → w.heap.size ≤ k) (fun v _ => l.length - (intOf v).toNat)
    case atStart => exact ⟨0, H, rfl, by omega, hT2, hO2, k1.trans' k2, hH⟩
    case round =>
      obtain ⟨k, H', rfl, hk, hTr, hOr, hold, hHr⟩ := hrel
      by_cases hlt : k < l.length
      · obtain ⟨b, o, A', c', rfl, hSb, h0, h1, h2, h3, h4, hc, hP⟩ := hOr.at_ (j := k) hlt
        generalize l[k] = x at *
        have i1 : (0 : Int) ≤ (k : Int) := by omega
        have i2 : (k : Int) < (l.length : Int) := by omega
        go_wp2_with fail
        generalize hA : wr.alloc (.cells #[.int .i64 x.kind, .slice A' x.sents.length c', .int .i64 x.i, .int .i64 x.at_, .int .u8 x.mask.toNat] 36) = wa
        have ka : Old wr wa := by subst hA; exact (Keeps.refl _ _).alloc _
        have hza := ka.size
        have hold1 := hold.size
        refine (plays_any wa H' S gn gm lim.toNat x.kind x.i x.at_ x.mask A' c' x.sents (hTr.keep (ka.old _)) (hP.keep (ka.old _)) (fun j hj => by have := hS j hj; exact ⟨by omega, fun h => by have := hHr j h; omega⟩)).mono ?_
        rintro e w3 ⟨rfl, H3, hT3, hH3, hK3⟩
        have hO3 := (hOr.keep (ka.old _)).keep (hK3.mono fun j _ hj h => by have := hS j hj; have := hHr j h; omega)
        go_wp2
        refine ⟨⟨k + 1, H3, by go_num, by omega, hT3, hO3, (hold.trans' ka).trans hK3 (fun j hj _ h => by have := hHr j h; omega), fun j h => by
          rcases hH3 j h with h | h
          · exact hHr j h
          · omega⟩, by simp [intOf]; omega⟩
      · go_wp2
        go_ret
        exact ⟨rfl, hold⟩
  · simp only [if_neg hl] at hb
    go_enter Try.func22, Try.ntmps22
    go_wp2_with fail
    refine hb.mono ?_
    rintro e w1 ⟨k1, rfl⟩
    clear hb
    go_wp2_with fail
    refine (first_any w1).mono ?_
    rintro e w2 ⟨rfl, k2⟩
    go_wp2
    go_ret
    exact ⟨rfl, k1.trans' k2⟩
end Go.Proofs.Ytgnndggbjipioaa
