/- (*under.Net).Lose, (*under.Net).Spoil: what each answers and does to the packets in flight. Condition: the net stands whole at its block. -/
import Derived.Test.YtgnndggbjipioaaAUTake
namespace Go.Proofs.Ytgnndggbjipioaa
open Go.RowKit

/-- Lose's answer. -/
def loseS (i : Int) (ps : List Pk) : Int × List Pk := ((takeS i ps).2.1, (takeS i ps).2.2)

set_option maxHeartbeats 1000000 in
theorem ulose_any (w : World) (F : Nat → Prop) (g lim : Nat) (L : Value) (q : List (Pk × Value)) (i : Int) (hN : UNet F w g lim L q) :
    Calls Try.prog 30 #[.pointer (some ⟨g, 0, none⟩), .int .i64 i] w (PostU F w g lim (loseS i (q.map (·.1)))) := by
  have hc := utake_any w F g lim L q i hN
  go_enter Try.func30, Try.ntmps30
  go_wp2_with fail
  refine hc.mono ?_
  rintro e w1 ⟨F', G, L', q', v, rfl, hN1, hq, hov, hF, hG, hFG, hK⟩
  obtain ⟨A, c, rfl, _, _⟩ := hov.slice
  go_wp2
  go_ret
  refine ⟨F', L', q', rfl, hN1.keep ((Keeps.refl _ _).alloc _), hq, fun k h => .inl (hF k h), hK.alloc _⟩

/-- Spoil's answer. -/
def spoilS (i at_ : Int) (m : UInt8) (ps : List Pk) : Int × List Pk :=
  if h : 0 ≤ i ∧ i < ps.length then
    if h2 : 0 ≤ at_ ∧ at_ < (ps[i.toNat]'(by omega)).2.length ∧ m ≠ 0 then
      (0, ps.set i.toNat ((ps[i.toNat]'(by omega)).1, (ps[i.toNat]'(by omega)).2.set at_.toNat (((ps[i.toNat]'(by omega)).2[at_.toNat]'(by omega)) ^^^ m)))
    else (1, ps)
  else (3, ps)

/-- A byte of packet j is written. -/
theorem flight_set {F : Nat → Prop} {w : World} {L : Value} {q : List (Pk × Value)} {j bb x : Nat} {cap : Nat} {t : Int} {bs : List UInt8} (h : Flight F w L q) (hj : j < q.length)
    (hv : q[j] = ((t, bs), .slice (some ⟨bb, 0, none⟩) bs.length cap)) (hx : x < bs.length) (y : UInt8) :
    Flight F (w.setCell ⟨bb, x, none⟩ (bv y)) L (q.set j ((t, bs.set x y), .slice (some ⟨bb, 0, none⟩) bs.length cap)) := by
  have ho := h.own q[j] (List.getElem_mem hj)
  have hob : (q[j]).2.ownBlock = some bb := by rw [hv]; rfl
  have K : Keeps (· ≠ bb) w (w.setCell ⟨bb, x, none⟩ (bv y)) := (Keeps.refl _ _).setCell (fun _ h => h rfl) _
  have hr2 : row2 (q.set j ((t, bs.set x y), .slice (some ⟨bb, 0, none⟩) bs.length cap)) = row2 q := by
    apply List.ext_getElem?
    intro i
    rcases Nat.lt_or_ge i (q.length * 2) with hi | hi
    · rcases Nat.mod_two_eq_zero_or_one i with h0 | h0
      · obtain ⟨k, rfl⟩ : ∃ k, i = k * 2 := ⟨i / 2, by omega⟩
        rw [row2_get0 _ k (by simp; omega), row2_get0 _ k (by omega), List.getElem_set]
        split
        · rename_i e; subst e; rw [hv]
        · rfl
      · obtain ⟨k, rfl⟩ : ∃ k, i = k * 2 + 1 := ⟨i / 2, by omega⟩
        rw [row2_get1 _ k (by simp; omega), row2_get1 _ k (by omega), List.getElem_set]
        split
        · rename_i e; subst e; rw [hv]
        · rfl
    · rw [List.getElem?_eq_none (by rw [row2_length, List.length_set]; exact hi), List.getElem?_eq_none (by rw [row2_length]; exact hi)]
  have hLb : L.ownBlock ≠ some bb := own_ne ho.row h.row (by decide) hob
  refine ⟨?_, ?_, ?_, h.foot⟩
  · rw [hr2, List.length_set]
    exact own_keeps h.row K fun k hk e => hLb (e ▸ hk)
  · intro z hz
    obtain ⟨i, hi', rfl⟩ := List.mem_iff_getElem.1 hz
    have hi : i < q.length := by simpa using hi'
    rw [List.getElem_set]
    split
    · rename_i e; subst e
      rw [hv] at ho
      refine ⟨?_, ho.foot, by simpa using ho.len⟩
      rcases ho.row.2 with ⟨_, h0⟩ | ⟨g', cap', cur, hv', _, hg, hnc, hcm, hcs, ht⟩
      · have h0' : bs.length = 0 := h0; omega
      injection hv' with hA _ hcc
      injection hA with hA
      injection hA with hA
      subst hA; subst hcc
      refine ⟨by simp, .inr ⟨bb, cap, _, by simp, Nat.zero_le _, heap_setCell hg _, by simpa using hnc, hcm, by simpa using hcs, ?_⟩⟩
      simp only [Array.toList_setIfInBounds, List.length_set]
      rw [List.take_set, ht]
      simp [List.map_set]
    · rename_i e
      exact (h.own _ (List.getElem_mem hi)).keepS K fun k hk e' => flight_apart h hi hj (Ne.symm e) k hk (by rw [hob, e'])
  · have hp := List.pairwise_iff_getElem.1 h.apart
    rw [List.pairwise_iff_getElem]
    intro i k hi hk hik
    rw [List.length_set] at hi hk
    have e : ∀ l (hl : l < q.length), ((q.set j ((t, bs.set x y), .slice (some ⟨bb, 0, none⟩) bs.length cap))[l]'(by rw [List.length_set]; exact hl)).2 = q[l].2 := by
      intro l hl
      rw [List.getElem_set]
      split
      · rename_i e; subst e; rw [hv]
      · rfl
    rw [e i hi, e k hk]
    exact hp i k hi hk hik

set_option maxHeartbeats 1000000 in
theorem uspoil_any (w : World) (F : Nat → Prop) (g lim : Nat) (L : Value) (q : List (Pk × Value)) (i at_ : Int) (m : UInt8) (hN : UNet F w g lim L q) :
    Calls Try.prog 31 #[.pointer (some ⟨g, 0, none⟩), .int .i64 i, .int .i64 at_, .int .u8 m.toNat] w (PostU F w g lim (spoilS i at_ m (q.map (·.1)))) := by
  obtain ⟨LA, lc, hLs, hlc, hlm⟩ := own_slice hN.flight.row
  subst hLs
  have n1 := hN.cell1
  by_cases hi : 0 ≤ i ∧ i < q.length
  · obtain ⟨j, rfl⟩ := Int.eq_ofNat_of_zero_le hi.1
    have hj : j < q.length := by omega
    obtain ⟨b, c, A', c', hLe, _, _, hFb, hv, h0, h1, hc', hb⟩ := hN.flight.at_ hj
    have hroom := hN.room
    have hmost := hN.most
    have hqs : q.length ≤ 4096 := by omega
    injection hLe with hLA _ hcc
    subst hLA
    have hlen := hN.len _ (List.getElem_mem hj)
    generalize hs : q[j] = x at *
    obtain ⟨⟨t, bs⟩, v⟩ := x
    simp only at hv h0 h1 hc' hb hlen
    have hps : (q.map (·.1))[j]'(by simpa using hj) = (t, bs) := by simp [hs]
    have HS := hid hs; clear hs hi hcc
    have hob : OwnB F w (.slice A' bs.length c') bs := by
      have h := hN.flight.own _ (List.getElem_mem hj)
      rw [HS.out] at h; simpa [hv] using h
    have herr : ∀ e w', spoilS j at_ m (q.map (·.1)) = (1, q.map (·.1)) → e = .returned (.int .i64 1) → w = w' → PostU F w g lim (spoilS j at_ m (q.map (·.1))) e w' := by
      rintro e w' he rfl rfl
      rw [he]
      exact ⟨F, _, q, rfl, hN, rfl, fun k h => .inl h, Keeps.refl _ _⟩
    by_cases ha : at_ < 0
    · go_enter Try.func31, Try.ntmps31
      go_wp2_with (go_at_call 53; refine (uthere_any _ g q.length lc (some ⟨b, 0, none⟩) j n1).mono ?_; rintro e w' ⟨rfl, rfl⟩)
      go_ret
      refine herr _ _ ?_ rfl rfl
      unfold spoilS
      rw [dif_pos (by simp; omega), dif_neg (by omega)]
    obtain ⟨x, rfl⟩ := Int.eq_ofNat_of_zero_le (show 0 ≤ at_ by omega)
    have x0 : decide ((x : Int) < 0) = false := by simp
    by_cases hxl : bs.length ≤ x
    · have x1 : decide (bs.length ≤ x) = true := by simpa using hxl
      go_enter Try.func31, Try.ntmps31
      go_wp2_with (go_at_call 53; refine (uthere_any _ g q.length lc (some ⟨b, 0, none⟩) j n1).mono ?_; rintro e w' ⟨rfl, rfl⟩)
      go_ret
      refine herr _ _ ?_ rfl rfl
      unfold spoilS
      rw [dif_pos (by simp; omega), dif_neg]
      simp only [Int.toNat_natCast, hps]
      omega
    have x1 : decide (bs.length ≤ x) = false := by simpa using hxl
    by_cases hm : m = 0
    · have hm0 : ((m.toNat : Int) == 0) = true := by subst hm; rfl
      go_enter Try.func31, Try.ntmps31
      go_wp2_with (go_at_call 53; refine (uthere_any _ g q.length lc (some ⟨b, 0, none⟩) j n1).mono ?_; rintro e w' ⟨rfl, rfl⟩)
      go_ret
      refine herr _ _ ?_ rfl rfl
      unfold spoilS
      rw [dif_pos (by simp; omega), dif_neg (fun h => h.2.2 hm)]
    have hm0 : ((m.toNat : Int) == 0) = false := by
      rw [beq_eq_false_iff_ne]
      intro h
      exact hm (UInt8.toNat_inj.1 (by simpa using h))
    have hx : x < bs.length := by omega
    rcases hob.row.2 with ⟨_, h0'⟩ | ⟨bb, cap, cur, hv', _, hgb, hnc, hcm, hcs, ht⟩
    · omega
    injection hv' with hA _ hcc
    subst hA; subst hcc
    have hcx : w.cell? ⟨bb, x, none⟩ = some (bv bs[x]) := by
      rw [cell_of_heap hgb]
      have e : (cur.toList.take (bs.length * 1))[x]? = (bs.map bv)[x]? := by rw [ht]
      rw [List.getElem?_take, if_pos (by omega)] at e
      simpa [hx] using e
    have hfx : w.frozen? ⟨bb, x, none⟩ = false := frozen_of_heap hgb
    clear hxl
    have HT := hid ht; clear ht
    have Hcs := hid hcs; clear hcs
    have Hv := hid hv; clear hv
    go_enter Try.func31, Try.ntmps31
    go_wp2_with (go_at_call 53; refine (uthere_any _ g q.length lc (some ⟨b, 0, none⟩) j n1).mono ?_; rintro e w' ⟨rfl, rfl⟩)
    go_ret
    rw [xor_u8]
    have hq := flight_set hN.flight hj (HS.out.trans (by rw [Hv.out])) hx (bs[x] ^^^ m)
    have e : spoilS j x m (q.map (·.1)) = (0, (q.map (·.1)).set j (t, bs.set x (bs[x] ^^^ m))) := by
      unfold spoilS
      rw [dif_pos (by simp; omega)]
      simp only [Int.toNat_natCast, hps]
      rw [dif_pos ⟨by omega, by omega, hm⟩]
    have hbg : bb ≠ g := fun e => by
      subst e; exact own_ne_heap hob.row hN.head (by decide) rfl
    rw [e]
    refine ⟨F, _, _, rfl, ⟨?_, hq, hN.fg, fun k hk => by simpa using hN.lt k hk, hmost, by simpa using hroom, ?_⟩, by rw [List.map_set], fun k h => .inl h, (Keeps.refl _ _).setCell (fun _ h => h (hob.foot bb rfl)) _⟩
    · rw [Below.heap_setCell _ _ _ _ (Ne.symm hbg)]; exact hN.head
    · intro z hz
      rcases List.mem_or_eq_of_mem_set hz with hz | rfl
      · exact hN.len z hz
      · simpa using hlen
  · go_enter Try.func31, Try.ntmps31
    go_wp2_with (go_at_call 53; refine (uthere_no _ g q.length lc LA i n1 hi).mono ?_; rintro e w' ⟨rfl, rfl⟩)
    go_ret
    refine ⟨F, _, q, ?_, hN, ?_, fun k h => .inl h, Keeps.refl _ _⟩ <;> simp [spoilS, hi]
end Go.Proofs.Ytgnndggbjipioaa
