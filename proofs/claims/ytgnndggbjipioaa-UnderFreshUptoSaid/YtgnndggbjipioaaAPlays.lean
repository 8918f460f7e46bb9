/- weftlaw18.both, plays: a net of package under and one of weftref18 in one state; each step on both answers the same. Conditions: the nets stand whole, apart from one another and from what is handed in; the packets handed in can be read. -/
import Derived.Test.YtgnndggbjipioaaALaw1
namespace Go.Proofs.Ytgnndggbjipioaa
open Go.RowKit

/-- A list of packets of the call's own reads as its packets. -/
theorem Flight.pks {F : Nat → Prop} {w : World} {A : Option Addr} {c : Nat} {q : List (Pk × Value)} (h : Flight F w (.slice A q.length c) q) (hl : q.length ≤ 281474976710656) : Pks F w A (q.map (·.1)) := by
  refine ⟨by simpa using hl, fun hn => ?_⟩
  · have h0 : 0 < q.length := by
      rcases q with _ | ⟨x, q⟩
      · exact absurd rfl hn
      · simp
    obtain ⟨b, c', A', c'', hLe, _, _, hFb, _⟩ := h.at_ h0
    injection hLe with hA _ _
    subst hA
    refine ⟨b, 0, rfl, hFb, fun i hi => ?_⟩
    have hi' : i < q.length := by simpa using hi
    obtain ⟨b2, c2, A2, c2', hLe2, _, _, _, _, g0, g1, g2, g3⟩ := h.at_ hi'
    injection hLe2 with hA2 _ _
    injection hA2 with hA2
    injection hA2 with hA2
    subst hA2
    simp only [List.getElem_map, Nat.zero_add]
    exact ⟨A2, c2', g0, g1, g2, g3⟩

/-- Both nets, in one state; all their blocks are H's. -/
def Twin (H : Nat → Prop) (w : World) (gn gm lim : Nat) : Prop :=
  ∃ F G Ln Lm q r, UNet F w gn lim Ln q ∧ RNet G w gm lim Lm r ∧ q.map (·.1) = r.map (·.1) ∧ (∀ k, F k → ¬ G k) ∧ (∀ k, F k → H k) ∧ (∀ k, G k → H k) ∧ (∀ k, H k → k < w.heap.size)

theorem Twin.keep {H : Nat → Prop} {w w' : World} {gn gm lim : Nat} (h : Twin H w gn gm lim) (hk : Keeps H w w') : Twin H w' gn gm lim := by
  obtain ⟨F, G, Ln, Lm, q, r, h1, h2, h3, h4, h5, h6, h7⟩ := h
  exact ⟨F, G, Ln, Lm, q, r, h1.keep (hk.mono fun k _ h => h5 k h), h2.keep (hk.mono fun k _ h => h6 k h), h3, h4, h5, h6, fun k hk' => Nat.lt_of_lt_of_le (h7 k hk') hk.size⟩

theorem Twin.lt {H : Nat → Prop} {w : World} {gn gm lim : Nat} (h : Twin H w gn gm lim) : ∀ k, H k → k < w.heap.size := by
  obtain ⟨F, G, Ln, Lm, q, r, h1, h2, h3, h4, h5, h6, h7⟩ := h
  exact h7

def PostPlays (H : Nat → Prop) (w : World) (gn gm lim : Nat) (e : Ending) (w' : World) : Prop :=
  e = .returned (.bool true) ∧ ∃ H', Twin H' w' gn gm lim ∧ (∀ k, H' k → H k ∨ w.heap.size ≤ k) ∧ Keeps (fun k => ¬ H k) w w'

theorem twin_join {H F G F' G' : Nat → Prop} {w w0 w1 w1' w2 w3 : World} {gn gm lim : Nat} {Ln Lm : Value} {q r : List (Pk × Value)}
    (hGlt : ∀ k, G k → k < w.heap.size) (hFG : ∀ k, F k → ¬ G k) (hFH : ∀ k, F k → H k) (hGH : ∀ k, G k → H k)
    (k0 : Old w w0) (hU : UNet F' w1 gn lim Ln q) (hF' : ∀ k, F' k → F k ∨ w0.heap.size ≤ k) (kU : Keeps (fun k => ¬ F k) w0 w1) (k1 : Old w1 w1')
    (hR : RNet G' w2 gm lim Lm r) (hG' : ∀ k, G' k → G k ∨ w1'.heap.size ≤ k) (kR : Keeps (fun k => ¬ G k) w1' w2) (k2 : Old w2 w3) (hq : q.map (·.1) = r.map (·.1)) :
    PostPlays H w gn gm lim (.returned (.bool true)) w3 := by
  have z0 := k0.size
  have z1 := kU.size
  have z1' := k1.size
  have z2 := kR.size
  have z3 := k2.size
  refine ⟨rfl, fun k => F' k ∨ G' k, ⟨F', G', Ln, Lm, q, r, hU.keep (((k1.old _).trans kR fun k hk h => ?_).trans' (k2.old _)), hR.keep (k2.old _), hq, ?_, fun k h => .inl h, fun k h => .inr h, ?_⟩, ?_, ?_⟩
  · intro hg
    rcases hF' k h with h | h
    · exact hFG k h hg
    · have := hGlt k hg; omega
  · intro k h h'
    rcases hG' k h' with g | g
    · rcases hF' k h with h | h
      · exact hFG k h g
      · have := hGlt k g; omega
    · have := hU.lt k h; omega
  · rintro k (h | h)
    · have := hU.lt k h; omega
    · have := hR.lt k h; omega
  · rintro k (h | h)
    · rcases hF' k h with h | h
      · exact .inl (hFH k h)
      · exact .inr (by omega)
    · rcases hG' k h with h | h
      · exact .inl (hGH k h)
      · exact .inr (by omega)
  · exact ((((k0.old _).trans kU fun k _ h hf => h (hFH k hf)).trans' (k1.old _)).trans kR fun k _ h hg => h (hGH k hg)).trans' (k2.old _)

set_option maxHeartbeats 2000000 in
theorem plays_any (w : World) (H S : Nat → Prop) (gn gm lim : Nat) (kind i at_ : Int) (m : UInt8) (A : Option Addr) (c : Nat) (ss : List Pk) (hT : Twin H w gn gm lim) (hr : Pks S w A ss) (hS : ∀ k, S k → k < w.heap.size ∧ ¬ H k) :
    Calls Try.prog 24 #[.pointer (some ⟨gn, 0, none⟩), .pointer (some ⟨gm, 0, none⟩), .agg #[.int .i64 kind, .slice A ss.length c, .int .i64 i, .int .i64 at_, .int .u8 m.toNat]] w (PostPlays H w gn gm lim) := by
  obtain ⟨F, G, Ln, Lm, q, r, hU, hR, hqr, hFG, hFH, hGH, hHlt⟩ := hT
  have HQ := hid hqr; clear hqr
  have k0 : Old w (w.alloc (.cells #[.int .i64 kind, .slice A ss.length c, .int .i64 i, .int .i64 at_, .int .u8 m.toNat] 36)) := (Keeps.refl _ _).alloc _
  have hU0 := hU.keep (k0.old F)
  have hR0 := hR.keep (k0.old G)
  have hr0 := hr.keep (k0.old S)
  have hbx : (w.alloc (.cells #[.int .i64 kind, .slice A ss.length c, .int .i64 i, .int .i64 at_, .int .u8 m.toNat] 36)).heap[w.heap.size]? = some (.cells #[.int .i64 kind, .slice A ss.length c, .int .i64 i, .int .i64 at_, .int .u8 m.toNat] 36 (0, 0)) := heap_alloc_new _ _
  have hFlt := hU.lt
  have hGlt := hR.lt
  have hbF : ¬ F w.heap.size := fun h => Nat.lt_irrefl _ (hFlt _ h)
  have hbG : ¬ G w.heap.size := fun h => Nat.lt_irrefl _ (hGlt _ h)
  by_cases h1 : kind = 1
  · subst h1
    have hr1 : ∀ w1, Keeps (fun k => ¬ F k) (w.alloc (.cells #[.int .i64 1, .slice A ss.length c, .int .i64 i, .int .i64 at_, .int .u8 m.toNat] 36)) w1 → Pks S w1 A ss := fun w1 h => hr0.keep (h.mono fun k _ hs hf => (hS k hs).2 (hFH k hf))
    go_enter Try.func24, Try.ntmps24
    go_wp2_with fail
    refine (uput_any _ F S gn lim Ln q A c ss hU0 hr0 (fun k _ h => ⟨fun e => (hS k h).2 (hFH k (e ▸ hU.fg)), fun e => (hS k h).2 (hFH k (hU.flight.foot k e))⟩) (fun k h => by have := (hS k h).1; simp; omega)).mono ?_
    rintro e w1 ⟨F', L', q', rfl, hU1, hq1, hF', hK1a⟩
    have hK1 := hK1a.mono (T := fun k => ¬ F k) fun k _ h => ⟨fun e => h (e ▸ hU.fg), fun e => h (hU.flight.foot k e)⟩
    have hR1 := hR0.keep (hK1.mono fun k _ h hf => hFG k hf h)
    have hb1 := hK1.heap hbx hbF
    have x1 : w1.cell? ⟨w.heap.size, 1, none⟩ = some (.slice A ss.length c) := cell_of_heap hb1
    have hz1 := hK1.size
    have hc := rput_any w1 G S gm lim Lm r A c ss hR1 (hr1 w1 hK1) (fun k _ h => ⟨fun e => (hS k h).2 (hGH k (e ▸ hR.fg)), fun e => (hS k h).2 (hGH k (hR.flight.foot k e))⟩) (fun k h => by have := (hS k h).1; simp at hz1; omega)
    unfold PostRPut at hc
    rw [← HQ.out] at hc
    go_wp2_with fail
    refine hc.mono ?_
    rintro e w2 ⟨G', M', r', rfl, hR2, hq2, hG', hK2a⟩
    have hK2 := hK2a.mono (T := fun k => ¬ G k) fun k _ h => ⟨fun e => h (e ▸ hR.fg), fun e => h (hR.flight.foot k e)⟩
    clear hc
    go_wp2
    go_ret
    exact twin_join hGlt hFG hFH hGH k0 hU1 hF' hK1 (Keeps.refl _ _) hR2 hG' hK2 (Keeps.refl _ _) (hq1.trans hq2.symm)
  have b1 : (kind == 1) = false := ne_int h1
  by_cases h2 : kind = 2
  · subst h2
    go_enter Try.func24, Try.ntmps24
    go_wp2_with fail
    refine (utake_any _ F gn lim Ln q i hU0).mono ?_
    rintro e w1 ⟨F', G1, L', q', v1, rfl, hU1, hq1, ho1, hF', hG1, _, hK1⟩
    obtain ⟨A1, c1, rfl, _, _⟩ := ho1.slice
    have hR1 := hR0.keep (hK1.mono fun k _ h hf => hFG k hf h)
    have hb1 := hK1.heap hbx hbF
    have x2 : w1.cell? ⟨w.heap.size, 2, none⟩ = some (.int .i64 i) := cell_of_heap hb1
    have x2' : ∀ o, (w1.alloc o).cell? ⟨w.heap.size, 2, none⟩ = some (.int .i64 i) := fun o => by rw [World.cell?_alloc_lt _ _ _ (lt_of_cell x2)]; exact x2
    go_wp2_with fail
    generalize hTk : takeS i (q.map (·.1)) = T at *
    obtain ⟨⟨t, bs⟩, er, ps'⟩ := T
    have k1 : Old w1 (w1.alloc (.cells #[.int .u32 t, .slice A1 bs.length c1] 48)) := (Keeps.refl _ _).alloc _
    have hs1 : (w1.alloc (.cells #[.int .u32 t, .slice A1 bs.length c1] 48)).heap[w1.heap.size]? = some (.cells #[.int .u32 t, .slice A1 bs.length c1] 48 (0, 0)) := heap_alloc_new _ _
    have hc := rtake_any _ G gm lim Lm r i (hR1.keep (k1.old G))
    unfold PostRTake at hc
    rw [← HQ.out, hTk] at hc
    refine hc.mono ?_
    rintro e w2 ⟨G', G2, M', r', v2, rfl, hR2, hq2, ho2, hG', hG2, _, hK2⟩
    obtain ⟨A2, c2, rfl, _, _⟩ := ho2.slice
    clear hc
    have hz1 := hK1.size
    have hs2 := hK2.heap hs1 (fun h => by have := hGlt _ h; simp at hz1; omega)
    have y0 : w2.cell? ⟨w1.heap.size, 0, none⟩ = some (.int .u32 t) := cell_of_heap hs2
    have y1 : w2.cell? ⟨w1.heap.size, 1, none⟩ = some (.slice A1 bs.length c1) := cell_of_heap hs2
    have yl := lt_of_heap hs2
    have y0' : ∀ o, (w2.alloc o).cell? ⟨w1.heap.size, 0, none⟩ = some (.int .u32 t) := fun o => by rw [World.cell?_alloc_lt _ _ _ yl]; exact y0
    have y1' : ∀ o, (w2.alloc o).cell? ⟨w1.heap.size, 1, none⟩ = some (.slice A1 bs.length c1) := fun o => by rw [World.cell?_alloc_lt _ _ _ yl]; exact y1
    have HTk := hid hTk; clear hTk
    have hbt1 : Bts G1 w2 A1 bs := ho1.bts.keep (((k1.old (fun k => ¬ G k)).trans' hK2).mono fun k _ h hg => hFG k (hG1 k h) hg)
    go_wp2_with fail
    have hsm := same_any (w2.alloc (.cells #[.int .u32 t, .slice A2 bs.length c2] 48)) G1 G2 A1 A2 c1 c2 bs bs (hbt1.keep ((Keeps.refl _ _).alloc _)) (ho2.bts.keep ((Keeps.refl _ _).alloc _))
    rw [decide_eq_true (show bs = bs from rfl)] at hsm
    refine hsm.mono ?_
    rintro e w3 ⟨rfl, nd, rfl⟩
    clear hsm
    go_wp2
    go_ret
    exact twin_join hGlt hFG hFH hGH k0 hU1 (fun k h => .inl (hF' k h)) hK1 k1 hR2 hG' hK2 (((Keeps.refl _ _).alloc _).drewN _) (hq1.trans hq2.symm)
  have b2 : (kind == 2) = false := ne_int h2
  by_cases h3 : kind = 3
  · subst h3
    go_enter Try.func24, Try.ntmps24
    go_wp2_with fail
    refine (ucopy_any _ F gn lim Ln q i hU0).mono ?_
    rintro e w1 ⟨F', L', q', rfl, hU1, hq1, hF', hK1⟩
    have hR1 := hR0.keep (hK1.mono fun k _ h hf => hFG k hf h)
    have hb1 := hK1.heap hbx hbF
    have x2 : w1.cell? ⟨w.heap.size, 2, none⟩ = some (.int .i64 i) := cell_of_heap hb1
    have hc := rcopy_any w1 G gm lim Lm r i hR1
    unfold PostR at hc
    rw [← HQ.out] at hc
    go_wp2_with fail
    refine hc.mono ?_
    rintro e w2 ⟨G', M', r', rfl, hR2, hq2, hG', hK2⟩
    clear hc
    go_wp2
    go_ret
    exact twin_join hGlt hFG hFH hGH k0 hU1 hF' hK1 (Keeps.refl _ _) hR2 hG' hK2 (Keeps.refl _ _) (hq1.trans hq2.symm)
  have b3 : (kind == 3) = false := ne_int h3
  by_cases h4 : kind = 4
  · subst h4
    go_enter Try.func24, Try.ntmps24
    go_wp2_with fail
    refine (ulose_any _ F gn lim Ln q i hU0).mono ?_
    rintro e w1 ⟨F', L', q', rfl, hU1, hq1, hF', hK1⟩
    have hR1 := hR0.keep (hK1.mono fun k _ h hf => hFG k hf h)
    have hb1 := hK1.heap hbx hbF
    have x2 : w1.cell? ⟨w.heap.size, 2, none⟩ = some (.int .i64 i) := cell_of_heap hb1
    have hc := rlose_any w1 G gm lim Lm r i hR1
    unfold PostR at hc
    rw [← HQ.out] at hc
    go_wp2_with fail
    refine hc.mono ?_
    rintro e w2 ⟨G', M', r', rfl, hR2, hq2, hG', hK2⟩
    clear hc
    go_wp2
    go_ret
    exact twin_join hGlt hFG hFH hGH k0 hU1 hF' hK1 (Keeps.refl _ _) hR2 hG' hK2 (Keeps.refl _ _) (hq1.trans hq2.symm)
  have b4 : (kind == 4) = false := ne_int h4
  by_cases h5 : kind = 5
  · subst h5
    go_enter Try.func24, Try.ntmps24
    go_wp2_with fail
    refine (uspoil_any _ F gn lim Ln q i at_ m hU0).mono ?_
    rintro e w1 ⟨F', L', q', rfl, hU1, hq1, hF', hK1⟩
    have hR1 := hR0.keep (hK1.mono fun k _ h hf => hFG k hf h)
    have hb1 := hK1.heap hbx hbF
    have x2 : w1.cell? ⟨w.heap.size, 2, none⟩ = some (.int .i64 i) := cell_of_heap hb1
    have x3 : w1.cell? ⟨w.heap.size, 3, none⟩ = some (.int .i64 at_) := cell_of_heap hb1
    have x4 : w1.cell? ⟨w.heap.size, 4, none⟩ = some (.int .u8 m.toNat) := cell_of_heap hb1
    have hc := rspoil_any w1 G gm lim Lm r i at_ m hR1
    unfold PostR at hc
    rw [← HQ.out] at hc
    go_wp2_with fail
    refine hc.mono ?_
    rintro e w2 ⟨G', M', r', rfl, hR2, hq2, hG', hK2⟩
    clear hc
    go_wp2
    go_ret
    exact twin_join hGlt hFG hFH hGH k0 hU1 hF' hK1 (Keeps.refl _ _) hR2 hG' hK2 (Keeps.refl _ _) (hq1.trans hq2.symm)
  have b5 : (kind == 5) = false := ne_int h5
  by_cases h6 : kind = 6
  · subst h6
    go_enter Try.func24, Try.ntmps24
    go_wp2_with fail
    refine (ulist_any _ F gn lim Ln q hU0).mono ?_
    rintro e w1 ⟨v1, q1, rfl, hf1, hq1, hK1⟩
    obtain ⟨A1, c1, rfl, _, _⟩ := own_slice hf1.row
    have hR1 := hR0.keep (hK1.old G)
    have hc := rlist_any w1 G gm lim Lm r hR1
    rw [← HQ.out] at hc
    go_wp2_with fail
    refine hc.mono ?_
    rintro e w2 ⟨v2, q2, rfl, hf2, hq2, hK2⟩
    obtain ⟨A2, c2, rfl, _, _⟩ := own_slice hf2.row
    clear hc
    have hl1 : q1.length ≤ 281474976710656 := by have e := congrArg List.length hq1; simp at e; have := hU.room; have := hU.most; omega
    have hl2 : q2.length ≤ 281474976710656 := by have e := congrArg List.length hq2; simp at e; have := hU.room; have := hU.most; omega
    have hp1 := (hf1.keep (hK2.old _)).pks hl1
    have hp2 := hf2.pks hl2
    have hsm := sents_any w2 _ _ A1 A2 c1 c2 _ _ hp1 hp2
    rw [decide_eq_true (show q1.map (·.1) = q2.map (·.1) by rw [hq1, hq2])] at hsm
    simp only [List.length_map] at hsm
    go_wp2_with fail
    refine hsm.mono ?_
    rintro e w3 ⟨rfl, nd, rfl⟩
    clear hsm
    go_wp2
    go_ret
    exact twin_join (Ln := Ln) (Lm := Lm) (q := q) (r := r) hGlt hFG hFH hGH k0 (hU0.keep (hK1.old _)) (fun k h => .inl h) (hK1.old _) (Keeps.refl _ _) (hR1.keep (hK2.old _)) (fun k h => .inl h) (hK2.old _) ((Keeps.refl _ _).drewN _) HQ.out
  have b6 : (kind == 6) = false := ne_int h6
  go_enter Try.func24, Try.ntmps24
  go_wp2
  go_ret
  exact twin_join (Ln := Ln) (Lm := Lm) (q := q) (r := r) hGlt hFG hFH hGH k0 hU0 (fun k h => .inl h) (Keeps.refl _ _) (Keeps.refl _ _) hR0 (fun k h => .inl h) (Keeps.refl _ _) (Keeps.refl _ _) HQ.out
end Go.Proofs.Ytgnndggbjipioaa
