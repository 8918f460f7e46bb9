/- weftlaw12.Tale: at; begun with its tale. Conditions: the tale lies. -/
import Derived.Test.YtdpaaoeipconcaaDoorJNote
import Derived.Test.YtdpaaoeipconcaaDoorJTellP
namespace Go.Proofs.YtdpaaoeipconcaaDoor
open Go.RowKit

theorem own_cellN {w : World} {b e s n : Nat} {v : Value} {xs : List Value} (h : w.ownsRow b e s v n xs) (hn : 0 < n) : ∃ g c, v = .slice (some ⟨g, 0, none⟩) n c ∧ n ≤ c ∧ c ≤ maxLen ∧ ∀ i, i < n * s → w.cell? ⟨g, i, none⟩ = xs[i]? := by
  obtain ⟨hl, h | ⟨g, cap, cur, hv, hb, hg, hnc, hcm, hcs, ht⟩⟩ := h
  · omega
  · refine ⟨g, cap, hv, hnc, hcm, fun i hi => ?_⟩
    rw [cell_of_heap hg, ← ht, List.getElem?_take, if_pos hi]
    simp

section
variable {T : Nat → Prop} {w : World} {t : Nat} {vG vP vR : Value} {gi : List (Recs × Value)} {pts : List Pt} {rq : List (List UInt8 × Value)} {size written : Nat}

/-- A generation's records, as they lie. -/
theorem TaleM.gen (h : TaleM T w t vG vP vR gi [vR] pts rq size written) (hl : rq.length ≤ 281474976710656) {i : Nat} {G : Recs} (hg : (gi.map (·.1) ++ [rq.map (·.1)])[i]? = some G) :
    ∃ A c, (gi.map (·.2) ++ [vR])[i]? = some (.slice A G.length c) ∧ G.length ≤ c ∧ Rcs T w A G := by
  by_cases hi : i < gi.length
  · rw [List.getElem?_append_left (by simpa using hi)] at hg
    rw [List.getElem?_append_left (by simpa using hi)]
    simp only [List.getElem?_map] at hg ⊢
    rw [List.getElem?_eq_getElem hi] at hg ⊢
    simp only [Option.map_some, Option.some.injEq] at hg
    obtain ⟨A, c, e, h1, h2⟩ := h.gv gi[i] (List.getElem_mem hi)
    rw [hg] at e h1 h2
    exact ⟨A, c, by simp [e], h1, h2.mono fun k _ hk => hk.1⟩
  · have hz : i = gi.length := by
      have := (List.getElem?_eq_some_iff.1 hg).1
      simp at this; omega
    subst hz
    rw [List.getElem?_append_right (by simp)] at hg
    rw [List.getElem?_append_right (by simp)]
    simp at hg
    subst hg
    obtain ⟨A, c, e, h1, h2⟩ := h.r.rcs hl
    refine ⟨A, c, by simp [e], by simpa using h1, h2⟩
end

/-- The records of a point. -/
def PostAt (T : Nat → Prop) (w : World) (R : Recs) (e : Ending) (w' : World) : Prop := ∃ A c, e = .returned (.slice A R.length c) ∧ R.length ≤ c ∧ Rcs T w A R ∧ ∃ n, w.drewN n = w'

theorem atP_next {hist : List (Recs × Nat)} {k : Nat} {x y : Recs × Nat} {keep : Int} (hy : hist[k + 1]? = some y) (hle : (y.2 : Int) ≤ keep) : atP x.1 (hist.drop (k + 1)) keep = atP y.1 (hist.drop (k + 1 + 1)) keep := by
  obtain ⟨hk, he⟩ := List.getElem?_eq_some_iff.1 hy
  rw [List.drop_eq_getElem_cons hk, he]
  obtain ⟨a, b⟩ := y
  rw [atP, if_pos hle]
theorem atP_stop {hist : List (Recs × Nat)} {k : Nat} {x y : Recs × Nat} {keep : Int} (hy : hist[k + 1]? = some y) (hle : ¬ (y.2 : Int) ≤ keep) : atP x.1 (hist.drop (k + 1)) keep = x.1 := by
  obtain ⟨hk, he⟩ := List.getElem?_eq_some_iff.1 hy
  rw [List.drop_eq_getElem_cons hk, he]
  obtain ⟨a, b⟩ := y
  rw [atP, if_neg hle]
theorem atP_end {hist : List (Recs × Nat)} {k : Nat} {x : Recs × Nat} {keep : Int} (hk : hist.length ≤ k + 1) : atP x.1 (hist.drop (k + 1)) keep = x.1 := by
  rw [List.drop_of_length_le hk]; rfl

set_option maxHeartbeats 4000000 in
theorem at_any (w : World) (T : Nat → Prop) (t : Nat) (vG vP vR : Value) (gi : List (Recs × Value)) (pts : List Pt) (rq : List (List UInt8 × Value)) (size written : Nat) (h : TaleM T w t vG vP vR gi [vR] pts rq size written) (hl : rq.length ≤ 281474976710656)
    (R0 : Recs) (rest : List (Recs × Nat)) (hH : HistOK (gi.map (·.1) ++ [rq.map (·.1)]) pts ((R0, 0) :: rest)) (keep : Int) (hn : pts.length ≤ 5000000000000) :
    Calls Tryd.prog 37 #[.pointer (some ⟨t, 0, none⟩), .int .i64 keep] w (PostAt T w (atP R0 rest keep)) := by
  obtain ⟨hist, hhi⟩ : ∃ hist, hist = (R0, 0) :: rest := ⟨_, rfl⟩
  rw [← hhi] at hH
  have hpl : pts.length = hist.length := hH.1
  have hp0 : 0 < pts.length := by rw [hpl, hhi]; simp
  have htar : ∃ x, hist[0]? = some x ∧ atP x.1 (hist.drop (0 + 1)) keep = atP R0 rest keep := ⟨(R0, 0), by rw [hhi]; rfl, by rw [hhi]; rfl⟩
  generalize atP R0 rest keep = tar at *
  obtain ⟨gP, cP, hvP, hcP, _, hcells⟩ := own_cellN h.p hp0
  obtain ⟨gG, cG, hvG, hcG, _, hgc⟩ := own_cellN h.g (by simp)
  subst hvP hvG
  rw [show gi.length + [vR].length = gi.length + 1 by rfl] at hcG hgc
  have c0 : w.cell? ⟨t, 0, none⟩ = some (.slice (some ⟨gG, 0, none⟩) (gi.length + 1) cG) := cell_of_heap h.head
  have c1 : w.cell? ⟨t, 1, none⟩ = some (.slice (some ⟨gP, 0, none⟩) pts.length cP) := cell_of_heap h.head
  have hpt : ∀ k (hk : k < pts.length), w.cell? ⟨gP, k * 3, none⟩ = some (.int .i64 (pts[k].gen : Int)) ∧ w.cell? ⟨gP, k * 3 + 1, none⟩ = some (.int .i64 (pts[k].n : Int)) ∧ w.cell? ⟨gP, k * 3 + 2, none⟩ = some (.int .i64 (pts[k].at_ : Int)) := fun k hk => by
    obtain ⟨r0, r1, r2⟩ := rowP_get pts k hk
    exact ⟨(hcells _ (by omega)).trans r0, (hcells _ (by omega)).trans r1, (hcells _ (by omega)).trans r2⟩
  have hfin : ∀ k, k < pts.length → (∃ x, hist[k]? = some x ∧ x.1 = tar) → ∃ (p : Pt) (A : Option Addr) (G c : Nat), w.cell? ⟨gP, k * 3, none⟩ = some (.int .i64 (p.gen : Int)) ∧ w.cell? ⟨gP, k * 3 + 1, none⟩ = some (.int .i64 (p.n : Int)) ∧ p.gen < gi.length + 1 ∧
      w.cell? ⟨gG, p.gen, none⟩ = some (.slice A G c) ∧ p.n ≤ G ∧ G ≤ c ∧ Rcs T w A tar ∧ p.n = tar.length := fun k hk ⟨x, hx, he⟩ => by
    obtain ⟨q0, q1, _⟩ := hpt k hk
    obtain ⟨_, G, h2, h3, h4⟩ := hH.2 k pts[k] x (List.getElem?_eq_getElem hk) hx
    obtain ⟨A, c, e, h5, h6⟩ := h.gen hl h2
    have hgl := (List.getElem?_eq_some_iff.1 h2).1
    simp only [List.length_append, List.length_map, List.length_singleton] at hgl
    rw [he] at h4
    refine ⟨pts[k], A, G.length, c, q0, q1, hgl, (hgc _ (by omega)).trans e, h3, h5, ?_, by rw [← h4, List.length_take]; omega⟩
    rw [← h4]
    refine ⟨by have := h6.1; simp; omega, fun hn => ?_⟩
    have h0 : G ≠ [] := fun e => hn (by rw [e]; simp)
    obtain ⟨b, o, e, hs, hc⟩ := h6.2 h0
    refine ⟨b, o, e, hs, fun i hi => ?_⟩
    have hi' : i < G.length := by simp at hi; omega
    obtain ⟨A', c', h1, h2, h3⟩ := hc i hi'
    simp only [List.getElem_take]
    exact ⟨A', c', h1, h2, h3⟩
  have hstep : ∀ k, k + 1 < pts.length → ∃ a : Nat, w.cell? ⟨gP, (k + 1) * 3 + 2, none⟩ = some (.int .i64 (a : Int)) ∧ ((∃ x, hist[k]? = some x ∧ atP x.1 (hist.drop (k + 1)) keep = tar) → ((a : Int) ≤ keep → ∃ x, hist[k + 1]? = some x ∧ atP x.1 (hist.drop (k + 1 + 1)) keep = tar) ∧ (¬ (a : Int) ≤ keep → ∃ x, hist[k]? = some x ∧ x.1 = tar)) := fun k hk => by
    obtain ⟨_, _, q2⟩ := hpt (k + 1) hk
    have hyl : k + 1 < hist.length := by omega
    obtain ⟨ha, _⟩ := hH.2 (k + 1) pts[k + 1] hist[k + 1] (List.getElem?_eq_getElem hk) (List.getElem?_eq_getElem hyl)
    have hy := List.getElem?_eq_getElem hyl
    refine ⟨pts[k + 1].at_, q2, fun ⟨x, hx, he⟩ => ⟨fun hle => ⟨_, hy, ?_⟩, fun hle => ⟨x, hx, ?_⟩⟩⟩
    · rw [← atP_next (x := x) hy (by rw [← ha]; exact hle)]; exact he
    · rw [← he, atP_stop hy (by rw [← ha]; exact hle)]
  have hlast : ∀ k, pts.length ≤ k + 1 → (∃ x, hist[k]? = some x ∧ atP x.1 (hist.drop (k + 1)) keep = tar) → ∃ x, hist[k]? = some x ∧ x.1 = tar := fun k hk ⟨x, hx, he⟩ => ⟨x, hx, by rw [← he, atP_end (by omega)]⟩
  have HF := hid hfin
  have HS := hid hstep
  have HL := hid hlast
  have HT := hid htar
  clear hfin hstep hlast htar hpt hgc hcells hH hhi hpl
  go_enter Tryd.func37, Tryd.ntmps37
  go_wp2
  go_loopw [5] (fun i wr => ∃ k : Nat, i = .int .i64 k ∧ k < pts.length ∧ Hid (∃ x, hist[k]? = some x ∧ atP x.1 (hist.drop (k + 1)) keep = tar) ∧ w = wr) (fun i _ => pts.length - (intOf i).toNat)
  case atStart => exact ⟨0, rfl, hp0, HT, rfl⟩
  case round =>
    clear HT
    obtain ⟨k, rfl, hk, hx, rfl⟩ := hrel
    have b1 : IntKind.i64.wrap ((k : Int) + 1) = (k : Int) + 1 := by rw [IntKind.wrap_i64]; omega
    have b2 : (0 : Int) ≤ (k : Int) + 1 := by omega
    have b3 : ((k : Int) + 1).toNat = k + 1 := by omega
    have i1 : (0 : Int) ≤ (k : Int) := by omega
    have i2 : (k : Int) < (pts.length : Int) := by omega
    by_cases hlt : k + 1 < pts.length
    · have b4 : (k : Int) + 1 < (pts.length : Int) := by omega
      obtain ⟨a, ha, hs⟩ := HS.out k hlt
      by_cases hle : (a : Int) ≤ keep
      · have HX := hid ((hs hx.out).1 hle)
        clear hs hx
        go_wp2
        exact ⟨⟨k + 1, by go_num, hlt, HX, by first | rfl | trivial⟩, by simp [intOf]; omega⟩
      · obtain ⟨p, A, G, c, q0, q1, hg, q2, hpn, hGc, hR, hpl⟩ := HF.out k hk ((hs hx.out).2 (by first | exact hle | omega))
        have HR := hid hR
        have HP := hid hpl
        have d1 : (0 : Int) ≤ (p.gen : Int) := by omega
        have d2 : (p.gen : Int) < ((gi.length + 1 : Nat) : Int) := by omega
        have d2' : (p.gen : Int) < (gi.length : Int) + 1 := by omega
        have d3 : (0 : Int) ≤ (p.n : Int) := by omega
        have d4 : p.n ≤ c := by omega
        clear hs hx hR hpl
        go_wp2
        go_quiet (fail)
        go_wp2
        go_ret
        exact ⟨A, c, by rw [← HP.out]; rfl, by rw [← HP.out]; exact d4, HR.out, nq, rfl⟩
    · have b4 : ¬ (k : Int) + 1 < (pts.length : Int) := by omega
      obtain ⟨p, A, G, c, q0, q1, hg, q2, hpn, hGc, hR, hpl⟩ := HF.out k hk (HL.out k (by omega) hx.out)
      have HR := hid hR
      have HP := hid hpl
      have d1 : (0 : Int) ≤ (p.gen : Int) := by omega
      have d2 : (p.gen : Int) < ((gi.length + 1 : Nat) : Int) := by omega
      have d2' : (p.gen : Int) < (gi.length : Int) + 1 := by omega
      have d3 : (0 : Int) ≤ (p.n : Int) := by omega
      have d4 : p.n ≤ c := by omega
      clear hx hR hpl
      go_wp2
      go_quiet (fail)
      go_wp2
      go_ret
      exact ⟨A, c, by rw [← HP.out]; rfl, by rw [← HP.out]; exact d4, HR.out, nq, rfl⟩
end Go.Proofs.YtdpaaoeipconcaaDoor
