/- (*weftref18.Net).Spoil, List: what each answers and does to the packets in flight. Condition: the net stands whole at its block. -/
import Derived.Test.YtgnndggbjipioaaARRest
namespace Go.Proofs.Ytgnndggbjipioaa
open Go.RowKit

set_option maxHeartbeats 1000000 in
theorem rspoil_any (w : World) (F : Nat → Prop) (g lim : Nat) (L : Value) (q : List (Pk × Value)) (i at_ : Int) (m : UInt8) (hN : RNet F w g lim L q) :
    Calls Try.prog 48 #[.pointer (some ⟨g, 0, none⟩), .int .i64 i, .int .i64 at_, .int .u8 m.toNat] w (PostR F w g lim (spoilS i at_ m (q.map (·.1)))) := by
  obtain ⟨LA, lc, hLs, hlc, hlm⟩ := own_slice hN.flight.row
  subst hLs
  have n1 := hN.cell0
  by_cases hi : 0 ≤ i ∧ i < q.length
  · obtain ⟨j, rfl⟩ := Int.eq_ofNat_of_zero_le hi.1
    have hj : j < q.length := by omega
    obtain ⟨b, c, A', c', hLe, _, _, hFb, hv, h0, h1, hc', hb⟩ := hN.flight.at_ hj
    have hroom := hN.room
    have hmost := hN.most
    have hqs : q.length ≤ 4096 := by omega
    injection hLe with hLA _ hcc
    subst hLA
    have hlen := hN.len _ (List.getElem_mem hj)
    generalize hs : q[j] = x at *
    obtain ⟨⟨t, bs⟩, v⟩ := x
    simp only at hv h0 h1 hc' hb hlen
    have hps : (q.map (·.1))[j]'(by simpa using hj) = (t, bs) := by simp [hs]
    have HS := hid hs; clear hs hi hcc
    have hob : OwnB F w (.slice A' bs.length c') bs := by
      have h := hN.flight.own _ (List.getElem_mem hj)
      rw [HS.out] at h; simpa [hv] using h
    have herr : ∀ e w', spoilS j at_ m (q.map (·.1)) = (1, q.map (·.1)) → e = .returned (.int .i64 1) → w = w' → PostR F w g lim (spoilS j at_ m (q.map (·.1))) e w' := by
      rintro e w' he rfl rfl
      rw [he]
      exact ⟨F, _, q, rfl, hN, rfl, fun k h => .inl h, Keeps.refl _ _⟩
    by_cases ha : at_ < 0
    · go_enter Try.func48, Try.ntmps48
      go_wp2_with (go_at_call 54; refine (rthere_any _ g q.length lc (some ⟨b, 0, none⟩) j n1).mono ?_; rintro e w' ⟨rfl, rfl⟩)
      go_ret
      refine herr _ _ ?_ rfl rfl
      unfold spoilS
      rw [dif_pos (by simp; omega), dif_neg (by omega)]
    obtain ⟨x, rfl⟩ := Int.eq_ofNat_of_zero_le (show 0 ≤ at_ by omega)
    have x0 : decide ((x : Int) < 0) = false := by simp
    by_cases hxl : bs.length ≤ x
    · have x1 : decide (bs.length ≤ x) = true := by simpa using hxl
      go_enter Try.func48, Try.ntmps48
      go_wp2_with (go_at_call 54; refine (rthere_any _ g q.length lc (some ⟨b, 0, none⟩) j n1).mono ?_; rintro e w' ⟨rfl, rfl⟩)
      go_ret
      refine herr _ _ ?_ rfl rfl
      unfold spoilS
      rw [dif_pos (by simp; omega), dif_neg]
      simp only [Int.toNat_natCast, hps]
      omega
    have x1 : decide (bs.length ≤ x) = false := by simpa using hxl
    by_cases hm : m = 0
    · have hm0 : ((m.toNat : Int) == 0) = true := by subst hm; rfl
      go_enter Try.func48, Try.ntmps48
      go_wp2_with (go_at_call 54; refine (rthere_any _ g q.length lc (some ⟨b, 0, none⟩) j n1).mono ?_; rintro e w' ⟨rfl, rfl⟩)
      go_ret
      refine herr _ _ ?_ rfl rfl
      unfold spoilS
      rw [dif_pos (by simp; omega), dif_neg (fun h => h.2.2 hm)]
    have hm0 : ((m.toNat : Int) == 0) = false := by
      rw [beq_eq_false_iff_ne]
      intro h
      exact hm (UInt8.toNat_inj.1 (by simpa using h))
    have hx : x < bs.length := by omega
    rcases hob.row.2 with ⟨_, h0'⟩ | ⟨bb, cap, cur, hv', _, hgb, hnc, hcm, hcs, ht⟩
    · omega
    injection hv' with hA _ hcc
    subst hA; subst hcc
    have hcx : w.cell? ⟨bb, x, none⟩ = some (bv bs[x]) := by
      rw [cell_of_heap hgb]
      have e : (cur.toList.take (bs.length * 1))[x]? = (bs.map bv)[x]? := by rw [ht]
      rw [List.getElem?_take, if_pos (by omega)] at e
      simpa [hx] using e
    have hfx : w.frozen? ⟨bb, x, none⟩ = false := frozen_of_heap hgb
    clear hxl
    have HT := hid ht; clear ht
    have Hcs := hid hcs; clear hcs
    have Hv := hid hv; clear hv
    go_enter Try.func48, Try.ntmps48
    have i1 : (0 : Int) ≤ (j : Int) := by omega
    have i2 : (j : Int) < (q.length : Int) := by omega
    have i3 : (0 : Int) ≤ (x : Int) := by omega
    have i4 : (x : Int) < (bs.length : Int) := by omega
    go_wp2_with (go_at_call 54; refine (rthere_any _ g q.length lc (some ⟨b, 0, none⟩) j n1).mono ?_; rintro e w' ⟨rfl, rfl⟩)
    refine wp_region_plan (fun w' => w'.cell? ⟨g, 0, none⟩ = some (.slice (some ⟨b, 0, none⟩) q.length lc) ∧ w'.cell? ⟨b, j * 2 + 1, none⟩ = some (.slice (some ⟨bb, 0, none⟩) bs.length c') ∧ w'.cell? ⟨bb, x, none⟩ = some (bv bs[x])) (List.replicate 23 true) (by kernel_rfl) (by kernel_rfl) ⟨n1, h1, hcx⟩ ?_
    iterate 23 (refine plan_take (v := ?_) (by rfl) (fun w' hS => ?_) ?_; rotate_left 1; (obtain ⟨s0, s1, s2⟩ := hS; go_simp <;> (try rw [if_pos (by omega)]) <;> (try with_reducible rfl)); (simp only [Act.put, List.setIfInBounds_toArray, List.set_cons_zero, List.set_cons_succ]))
    refine plan_tail ?_
    go_wp2
    refine NoPanic.normal ?_
    go_wp2
    go_ret
    rw [xor_u8]
    have hq := flight_set hN.flight hj (HS.out.trans (by rw [Hv.out])) hx (bs[x] ^^^ m)
    have e : spoilS j x m (q.map (·.1)) = (0, (q.map (·.1)).set j (t, bs.set x (bs[x] ^^^ m))) := by
      unfold spoilS
      rw [dif_pos (by simp; omega)]
      simp only [Int.toNat_natCast, hps]
      rw [dif_pos ⟨by omega, by omega, hm⟩]
    have hbg : bb ≠ g := fun e => by
      subst e; exact own_ne_heap hob.row hN.head (by decide) rfl
    rw [e]
    refine ⟨F, _, _, rfl, ⟨?_, hq.keep ((Keeps.refl _ _).drew), hN.fg, fun k hk => by simpa using hN.lt k hk, hmost, by simpa using hroom, ?_⟩, by rw [List.map_set], fun k h => .inl h, ((Keeps.refl _ _).setCell (fun _ h => h (hob.foot bb rfl)) _).drew⟩
    · exact (Below.heap_setCell _ _ _ _ (Ne.symm hbg)).trans hN.head
    · intro z hz
      rcases List.mem_or_eq_of_mem_set hz with hz | rfl
      · exact hN.len z hz
      · simpa using hlen
  · go_enter Try.func48, Try.ntmps48
    go_wp2_with (go_at_call 54; refine (rthere_no _ g q.length lc LA i n1 hi).mono ?_; rintro e w' ⟨rfl, rfl⟩)
    go_ret
    refine ⟨F, _, q, ?_, hN, ?_, fun k h => .inl h, Keeps.refl _ _⟩ <;> simp [spoilS, hi]
set_option maxHeartbeats 1000000 in
theorem rlist_any (w : World) (F : Nat → Prop) (g lim : Nat) (L : Value) (q : List (Pk × Value)) (hN : RNet F w g lim L q) :
    Calls Try.prog 49 #[.pointer (some ⟨g, 0, none⟩)] w (PostList w (q.map (·.1))) := by
  obtain ⟨LA, lc, hLs, hlc, hlm⟩ := own_slice hN.flight.row
  subst hLs
  have hroom := hN.room
  have hmost := hN.most
  have hq : q.length ≤ 4096 := by omega
  go_enter Try.func49, Try.ntmps49
  go_wp2
  go_loopw [3, 4] (fun v i wr => ∃ k : Nat, i = .int .i64 k ∧ k ≤ q.length ∧ InList w (q.map (·.1)) k v wr) (fun _ i _ => q.length - (intOf i).toNat)
  case atStart =>
    refine ⟨0, rfl, Nat.zero_le _, [], ⟨World.ownsRow_nil _ _ _ _, by simp, by simp, by simp [Value.ownBlock]⟩, rfl, Keeps.refl _ _⟩
  case round =>
    obtain ⟨k, rfl, hk, r, hr, hm, hold⟩ := hrel
    obtain ⟨RA, rc, rfl, hrc, hrm⟩ := own_slice hr.row
    have hNr := hN.keep (hold.old F)
    have n0 := hNr.cell0
    by_cases hlt : k < q.length
    · have hlen := hN.len _ (List.getElem_mem hlt)
      obtain ⟨b, c, A', c', hLe, _, _, hFb, hv, h0, h1, hc', hb⟩ := hNr.flight.at_ hlt
      injection hLe with hLA _ hcc
      subst hLA
      have hps : (q.map (·.1))[k]'(by simpa using hlt) = q[k].1 := by simp
      generalize hs : q[k] = x at *
      obtain ⟨⟨t, bs⟩, v⟩ := x
      simp only at hv h0 h1 hc' hb hps hlen
      have hrl : r.length = k := by have := congrArg List.length hm; simp at this; omega
      have hrl' : r.length ≤ 4096 := by omega
      have HS := hid hs; clear hs hcc
      have HM := hid hm; clear hm
      have HRL := hid hrl; clear hrl
      have HPS := hid hps; clear hps
      go_wp2_with fail
      refine (rown_any _ F t A' c' bs hb (by omega)).mono ?_
      rintro e w1 ⟨v1, rfl, hov, hold1⟩
      have hr1 := hr.keep (hold1.old _)
      have hap := hr1.row.alloc (.cells #[.int .u32 t, v1] 48)
      have hv1 := hov.one
      go_wp2_with (at_builtin; refine wpList_append_ex _ (by rfl) _ _ 34 48 (by rfl) Try.underlying34 info48 (by rfl) (by omega) (by rfl) hap (some ⟨w1.heap.size, 0, none⟩) 1 1 [.int .u32 t, v1] (by rfl) (by rfl) (fun _ => ⟨_, rfl, World.news_of_block (heap_alloc_new _ _)⟩) (two_one hv1) (by omega) (by unfold maxLen; omega) ?_; intro v2 w2 hown2 hgrow2 hat2)
      refine ⟨⟨k + 1, by go_num, by omega, ?_⟩, by simp [intOf]; omega⟩
      have K2 : Keeps (fun k => Value.ownBlock (.slice RA r.length rc) ≠ some k) w1 w2 := ((Keeps.refl _ w1).alloc _).grown hgrow2 (fun k _ h hn => hn h)
      have hg1 := (hNr.keep (hold1.old F)).head
      have hkl : k < (q.map (·.1)).length := by simpa using hlt
      refine inlist_step (g := g) (v := v1) hr1 HM.out hkl hold hr hold1 ?_ hg1 (by decide) ?_ K2 ?_
      · rw [HPS.out]; exact hov
      · rw [HPS.out]; exact hown2
      · exact hat2.imp id fun h => ⟨_, h, by simp⟩
    · go_wp2
      go_ret
      have : k = q.length := by omega
      subst this
      exact ⟨_, r, rfl, hr, by rw [hm]; exact List.take_of_length_le (by simp), hold⟩
end Go.Proofs.Ytgnndggbjipioaa
