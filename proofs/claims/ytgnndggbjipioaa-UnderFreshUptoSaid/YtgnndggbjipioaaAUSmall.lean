/- (*under.Net).there, under.New, (*under.Net).Copy: what each answers and does to the packets in flight. Conditions: the net stands whole at its block. -/
import Derived.Test.YtgnndggbjipioaaAUPut
namespace Go.Proofs.Ytgnndggbjipioaa
open Go.RowKit

set_option maxHeartbeats 400000 in
theorem uthere_any (w : World) (g n c : Nat) (A : Option Addr) (i : Int) (h1 : w.cell? ⟨g, 1, none⟩ = some (.slice A n c)) :
    Calls Try.prog 53 #[.pointer (some ⟨g, 0, none⟩), .int .i64 i] w fun e w' => e = .returned (.bool (decide (0 ≤ i) && decide (i < n))) ∧ w = w' := by
  by_cases h0 : 0 ≤ i
  all_goals
    go_enter Try.func53, Try.ntmps53
    go_wp2
    go_ret
    refine ⟨?_, rfl⟩
    simp [h0]
    try omega

theorem uthere_no (w : World) (g n c : Nat) (A : Option Addr) (i : Int) (h1 : w.cell? ⟨g, 1, none⟩ = some (.slice A n c)) (hi : ¬ (0 ≤ i ∧ i < n)) :
    Calls Try.prog 53 #[.pointer (some ⟨g, 0, none⟩), .int .i64 i] w fun e w' => e = .returned (.bool false) ∧ w = w' := by
  have hd : (decide (0 ≤ i) && decide (i < (n : Int))) = false := by
    rw [← Bool.decide_and]; exact decide_eq_false hi
  have := uthere_any w g n c A i h1
  rwa [hd] at this

/-- What New answers. -/
def PostUNew (lim : Int) (w : World) (e : Ending) (w' : World) : Prop :=
  Old w w' ∧ if 1 ≤ lim ∧ lim ≤ 4096 then e = .returned (.tuple #[.pointer (some ⟨w.heap.size, 0, none⟩), .int .i64 0]) ∧ UNet (fun k => k = w.heap.size) w' w.heap.size lim.toNat (.slice none 0 0) []
    else e = .returned (.tuple #[.pointer none, .int .i64 1])

set_option maxHeartbeats 400000 in
theorem unew_any (w : World) (lim : Int) : Calls Try.prog 25 #[.int .i64 lim] w (PostUNew lim w) := by
  by_cases h1 : lim < 1
  · go_enter Try.func25, Try.ntmps25
    go_wp2
    go_ret2
    exact ⟨Keeps.refl _ _, by rw [if_neg (by omega)]; rfl⟩
  · by_cases h2 : 4096 < lim
    · go_enter Try.func25, Try.ntmps25
      go_wp2
      go_ret2
      exact ⟨Keeps.refl _ _, by rw [if_neg (by omega)]; rfl⟩
    · go_enter Try.func25, Try.ntmps25
      go_wp2
      go_ret2
      refine ⟨(Keeps.refl _ _).alloc _, ?_⟩
      rw [if_pos (by omega)]
      refine ⟨rfl, ?_, ⟨World.ownsRow_nil _ _ _ _, by simp, by simp, by simp [Value.ownBlock]⟩, rfl, by simp, by omega, by simp, by simp⟩
      rw [heap_at, if_pos rfl, show ((lim.toNat : Nat) : Int) = lim by omega]

/-- Copy's answer. -/
def copyS (lim : Nat) (i : Int) (ps : List Pk) : Int × List Pk :=
  if h : 0 ≤ i ∧ i < ps.length then (if lim ≤ ps.length then (4, ps) else (0, ps ++ [ps[i.toNat]'(by omega)])) else (3, ps)

def PostU (F : Nat → Prop) (w : World) (g lim : Nat) (r : Int × List Pk) (e : Ending) (w' : World) : Prop :=
  ∃ F' L' q', e = .returned (.int .i64 r.1) ∧ UNet F' w' g lim L' q' ∧ q'.map (·.1) = r.2 ∧ (∀ k, F' k → F k ∨ w.heap.size ≤ k) ∧ Keeps (fun k => ¬ F k) w w'

set_option maxHeartbeats 1000000 in
theorem ucopy_any (w : World) (F : Nat → Prop) (g lim : Nat) (L : Value) (q : List (Pk × Value)) (i : Int) (hN : UNet F w g lim L q) :
    Calls Try.prog 29 #[.pointer (some ⟨g, 0, none⟩), .int .i64 i] w (PostU F w g lim (copyS lim i (q.map (·.1)))) := by
  obtain ⟨LA, lc, hLs, hlc, hlm⟩ := own_slice hN.flight.row
  subst hLs
  have n1 := hN.cell1
  by_cases hi : 0 ≤ i ∧ i < q.length
  · obtain ⟨j, rfl⟩ := Int.eq_ofNat_of_zero_le hi.1
    have hj : j < q.length := by omega
    obtain ⟨b, c, A', c', hLe, _, _, hFb, hv, h0, h1, hc', hb⟩ := hN.flight.at_ hj
    have hroom := hN.room
    have hmost := hN.most
    have hqs : q.length ≤ 4096 := by omega
    have hlen := hN.len _ (List.getElem_mem hj)
    injection hLe with hLA _ hcc
    subst hLA
    generalize hs : q[j] = x at *
    obtain ⟨⟨t, bs⟩, v⟩ := x
    simp only at hv h0 h1 hc' hb hlen
    have hob : OwnB (fun k => v.ownBlock = some k) w (.slice A' bs.length c') bs := by
      have h := (hN.flight.own _ (List.getElem_mem hj)).own_
      rw [hs] at h; simpa [hv] using h
    have hvne : ∀ k, v.ownBlock = some k → k ≠ g ∧ k ≠ b := fun k hk =>
      ⟨fun e => own_ne_heap hob.row hN.head (by decide) (by rw [← hv, hk, e]), fun e => own_ne hN.flight.row hob.row (by decide) (k := b) rfl (by rw [← hv, hk, e])⟩
    have HS := hid hs; clear hs hi hcc
    go_enter Try.func29, Try.ntmps29
    go_wp2_with (go_at_call 53; refine (uthere_any _ g q.length lc (some ⟨b, 0, none⟩) j n1).mono ?_; rintro e w' ⟨rfl, rfl⟩)
    have hps : (q.map (·.1))[j]'(by simpa using hj) = (t, bs) := by simp [HS.out]
    have hblk : (w.alloc (.cells #[.int .u32 t, .slice A' bs.length c'] 48)).heap[w.heap.size]? = some (.cells #[.int .u32 t, .slice A' bs.length c'] 48 (0, 0)) := heap_alloc_new _ _
    have hN1 := hN.keep (((Keeps.refl F w).alloc (.cells #[.int .u32 t, .slice A' bs.length c'] 48)))
    have hbl : b < w.heap.size := lt_of_cell h0
    have hgl : g < w.heap.size := lt_of_cell n1
    have hpk : Pks (fun k => k = w.heap.size ∨ (k < w.heap.size ∧ k ≠ g ∧ k ≠ b)) (w.alloc (.cells #[.int .u32 t, .slice A' bs.length c'] 48)) (some ⟨w.heap.size, 0, none⟩) [(t, bs)] := by
      refine ⟨by simp, fun _ => ⟨_, 0, rfl, .inl rfl, fun i hi => ?_⟩⟩
      obtain rfl : i = 0 := by simpa using hi
      refine ⟨A', c', cell_of_heap hblk, cell_of_heap hblk, hc', ?_⟩
      refine (hob.bts.keep ((Keeps.refl _ w).alloc _)).mono fun k hk h => ?_
      have h' := hvne k h
      have := own_lt hob.row (k := k) (by rw [← hv]; exact h)
      exact .inr ⟨this, h'.1, h'.2⟩
    refine (uput_any _ F _ g lim _ q _ 1 [(t, bs)] hN1 hpk (fun k _ h => ⟨by omega, by simp [Value.ownBlock]; omega⟩) (fun k h => by simp; omega)).mono ?_
    rintro e w1 ⟨F', L', q', rfl, hN2, hq', hF', hK⟩
    go_wp2
    go_ret
    have e1 : putS lim (q.map (·.1)) [(t, bs)] = if lim ≤ q.length then (0, 4, q.map (·.1)) else (1, 0, q.map (·.1) ++ [(t, bs)]) := by
      have : ¬ 65535 < bs.length := by omega
      simp only [putS, this, if_false, List.length_map]
    have e2 : copyS lim (j : Int) (q.map (·.1)) = if lim ≤ q.length then (4, q.map (·.1)) else (0, q.map (·.1) ++ [(t, bs)]) := by
      unfold copyS
      rw [dif_pos (by simp; omega)]
      simp [hps]
    rw [e1] at hq' ⊢
    rw [e2]
    refine ⟨F', L', q', by split <;> rfl, hN2, by rw [hq']; split <;> rfl, fun k hk => (hF' k hk).imp id (fun h => by simp at h; omega), ?_⟩
    exact ((Keeps.refl _ _).alloc _).trans hK (fun k _ h => ⟨fun e => h (e ▸ hN.fg), fun e => h (hN.flight.foot k e)⟩)
  · go_enter Try.func29, Try.ntmps29
    go_wp2_with (go_at_call 53; refine (uthere_no _ g q.length lc LA i n1 hi).mono ?_; rintro e w' ⟨rfl, rfl⟩)
    go_ret
    refine ⟨F, _, q, ?_, hN, ?_, fun k h => .inl h, Keeps.refl _ _⟩ <;> simp [copyS, hi]
end Go.Proofs.Ytgnndggbjipioaa
