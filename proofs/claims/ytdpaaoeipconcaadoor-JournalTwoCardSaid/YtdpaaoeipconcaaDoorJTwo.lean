/- weftlaw12.begins, JournalTwo: two journals, their steps in turns: each answers as if it were alone. Conditions: the disks, the script and the turns can be read, the table lies. -/
import Derived.Test.YtdpaaoeipconcaaDoorJHolds
namespace Go.Proofs.YtdpaaoeipconcaaDoor
open Go.RowKit

/-- The slice at A reads as truths. -/
def Bls (S : Nat → Prop) (w : World) (A : Option Addr) (bs : List Bool) : Prop := bs.length ≤ 281474976710656 ∧ (bs ≠ [] → ∃ b o, A = some ⟨b, o, none⟩ ∧ S b ∧ ∀ j (h : j < bs.length), w.cell? ⟨b, o + j, none⟩ = some (.bool bs[j]))
theorem Bls.keep {S : Nat → Prop} {w w' : World} {A : Option Addr} {bs : List Bool} (h : Bls S w A bs) (hk : Keeps S w w') : Bls S w' A bs := ⟨h.1, fun hn => by
  obtain ⟨b, o, e, hs, hc⟩ := h.2 hn
  exact ⟨b, o, e, hs, fun j hj => (hk.cell (lt_of_cell (hc j hj)) hs).trans (hc j hj)⟩⟩
theorem Bls.at_ {S : Nat → Prop} {w : World} {A : Option Addr} {bs : List Bool} (h : Bls S w A bs) {j : Nat} (hj : j < bs.length) : ∃ b o, A = some ⟨b, o, none⟩ ∧ w.cell? ⟨b, o + j, none⟩ = some (.bool bs[j]) := by
  obtain ⟨b, o, e, hs, hc⟩ := h.2 (by rintro rfl; simp at hj)
  exact ⟨b, o, e, hc j hj⟩

def PostBegins (w : World) (n : Nat) (e : Ending) (w' : World) : Prop := ∃ a : Nat, e = .returned (.int .i64 a) ∧ a ≤ n ∧ w = w'

set_option maxHeartbeats 1000000 in
theorem begins_any (w : World) (S : Nat → Prop) (A : Option Addr) (c : Nat) (bs : List Bool) (h : Bls S w A bs) : Calls Tryd.prog 35 #[.slice A bs.length c] w (PostBegins w bs.length) := by
  have hl := h.1
  go_enter Tryd.func35, Tryd.ntmps35
  go_wp2
  go_loopw [3] (fun i wr => ∃ k : Nat, i = .int .i64 k ∧ k ≤ bs.length ∧ w = wr) (fun i _ => bs.length - (intOf i).toNat)
  case atStart => exact ⟨0, rfl, Nat.zero_le _, rfl⟩
  case round =>
    obtain ⟨k, rfl, hk, rfl⟩ := hrel
    by_cases hlt : k < bs.length
    · obtain ⟨b, o, rfl, h0⟩ := h.at_ hlt
      have i1 : (0 : Int) ≤ (k : Int) := by omega
      have i2 : (k : Int) < (bs.length : Int) := by omega
      generalize bs[k] = x at *
      cases x
      · go_wp2
        exact ⟨⟨k + 1, by go_num, by omega, by first | rfl | trivial⟩, by simp [intOf]; omega⟩
      · go_wp2
        go_ret
        exact ⟨k, rfl, hk, rfl⟩
    · go_wp2
      go_ret
      exact ⟨bs.length, rfl, Nat.le_refl _, rfl⟩

/-- A step of a script, read where it lies. -/
theorem step_any {w : World} {H S : Nat → Prop} {p : Nat} {o : Option Jn} {b k : Nat} {x : OpJ} (hP : PairAt H w p o) (hx : OpAt S w b k x) (hS : ∀ k, S k → k < w.heap.size ∧ ¬ H k) (hT : Tab w) (hH0 : ¬ H 0) (hw : wsN o ≤ 2900000000000) :
    ∃ A c B d, w.cell? ⟨b, k, none⟩ = some (.int .i64 x.kind) ∧ w.cell? ⟨b, k + 1, none⟩ = some (.slice A x.one.length c) ∧ w.cell? ⟨b, k + 2, none⟩ = some (.slice B x.many.length d) ∧ w.cell? ⟨b, k + 3, none⟩ = some (.int .i64 x.n) ∧
      Calls Tryd.prog 36 #[.pointer (some ⟨p, 0, none⟩), .agg #[.int .i64 x.kind, .slice A x.one.length c, .slice B x.many.length d, .int .i64 x.n]] w (PostPlays H w p o) := by
  obtain ⟨A, c, B, d, h0, h1, h2, h3, _, _, h6, h7, h8, h9, h10⟩ := hx
  exact ⟨A, c, B, d, h0, h1, h2, h3, plays_any w H S p o x.kind x.n A B c d x.one x.many hP h7 h8 h6 hS h9 h10 hT hH0 hw⟩

theorem OpAt.keep {S : Nat → Prop} {w w' : World} {b k : Nat} {x : OpJ} (h : OpAt S w b k x) (hk : Keeps S w w') (hb : S b) : OpAt S w' b k x := by
  obtain ⟨A', c, B, d, h0, h1, h2, h3, h4, h5, h6, h7, h8, h9⟩ := h
  exact ⟨A', c, B, d, (hk.cell (lt_of_cell h0) hb).trans h0, (hk.cell (lt_of_cell h1) hb).trans h1, (hk.cell (lt_of_cell h2) hb).trans h2, (hk.cell (lt_of_cell h3) hb).trans h3, h4, h5, h6, h7.keep hk, h8.keep hk, h9⟩

/-- ahead of a round of the second loop: both pairs, in blocks of their own -/
def InTwo (W3 : World) (p qb n : Nat) (k : Nat) (wr : World) : Prop :=
  ∃ (H1 H2 : Nat → Prop) (o1 o2 : Option Jn), PairAt H1 wr p o1 ∧ PairAt H2 wr qb o2 ∧ (∀ k, H1 k → ¬ H2 k) ∧ (∀ k, H1 k → k = p ∨ W3.heap.size ≤ k) ∧ (∀ k, H2 k → k = qb ∨ W3.heap.size ≤ k) ∧
    Keeps (fun k => k ≠ p ∧ k ≠ qb) W3 wr ∧ wsN o1 + (n - k) ≤ n + 3 ∧ wsN o2 + (n - k) ≤ n + 3

set_option maxRecDepth 10000 in
set_option maxHeartbeats 8000000 in
theorem two_any (w : World) (S : Nat → Prop) (A B A' B' : Option Addr) (n m c d n' m' c' d' : Nat) (xs ys xs' ys' : List UInt8) (ha : Bts S w A xs) (hb : Bts S w B ys) (hn : n = xs.length) (hm : m = ys.length) (hc : n ≤ c) (hd : m ≤ d)
    (ha' : Bts S w A' xs') (hb' : Bts S w B' ys') (hn' : n' = xs'.length) (hm' : m' = ys'.length) (hc' : n' ≤ c') (hd' : m' ≤ d') (C : Option Addr) (cc : Nat) (l : List OpJ) (hO : Ops S w C l) (E : Option Addr) (ce : Nat) (bs : List Bool) (hB : Bls S w E bs) (hS : ∀ k, S k → k < w.heap.size) (hT : Tab w) :
    Calls Tryd.prog 10 #[.agg #[.slice A n c, .slice B m d], .agg #[.slice A' n' c', .slice B' m' d'], .slice C l.length cc, .slice E bs.length ce] w fun e w' => e = .returned (.bool true) ∧ Old w w' := by
  obtain ⟨W0, hW0⟩ : ∃ W, W = w.alloc (.cells #[.slice A n c, .slice B m d] 24) := ⟨_, rfl⟩
  obtain ⟨W1, hW1⟩ : ∃ W, W = W0.alloc (.cells #[.slice A' n' c', .slice B' m' d'] 24) := ⟨_, rfl⟩
  obtain ⟨W2, hW2⟩ : ∃ W, W = W1.alloc (.cells #[.pointer none, .pointer none] 29) := ⟨_, rfl⟩
  obtain ⟨W3, hW3⟩ : ∃ W, W = W2.alloc (.cells #[.pointer none, .pointer none] 29) := ⟨_, rfl⟩
  have k0 : Old w W0 := by rw [hW0]; exact (Keeps.refl _ _).alloc _
  have k1 : Old W0 W1 := by rw [hW1]; exact (Keeps.refl _ _).alloc _
  have k2 : Old W1 W2 := by rw [hW2]; exact (Keeps.refl _ _).alloc _
  have k3 : Old W2 W3 := by rw [hW3]; exact (Keeps.refl _ _).alloc _
  have s0 : W0.heap.size = w.heap.size + 1 := by rw [hW0]; simp
  have s1 : W1.heap.size = W0.heap.size + 1 := by rw [hW1]; simp
  have s2 : W2.heap.size = W1.heap.size + 1 := by rw [hW2]; simp
  have s3 : W3.heap.size = W2.heap.size + 1 := by rw [hW3]; simp
  have K3 := ((k0.trans' k1).trans' k2).trans' k3
  have hbc : W3.heap[w.heap.size]? = some (.cells #[.slice A n c, .slice B m d] 24 (0, 0)) := ((k1.trans' k2).trans' k3).heap (by rw [hW0]; exact heap_alloc_new _ _) trivial
  have hbd : W3.heap[W0.heap.size]? = some (.cells #[.slice A' n' c', .slice B' m' d'] 24 (0, 0)) := (k2.trans' k3).heap (by rw [hW1]; exact heap_alloc_new _ _) trivial
  have hbp : W3.heap[W1.heap.size]? = some (.cells #[.pointer none, .pointer none] 29 (0, 0)) := k3.heap (by rw [hW2]; exact heap_alloc_new _ _) trivial
  have hbq : W3.heap[W2.heap.size]? = some (.cells #[.pointer none, .pointer none] 29 (0, 0)) := by rw [hW3]; exact heap_alloc_new _ _
  have hl0 := hO.1
  have hbl := hB.1
  have hpos := hT.pos
  obtain ⟨L, hL⟩ : ∃ L, L = W3.heap.size := ⟨_, rfl⟩
  obtain ⟨p, hp⟩ : ∃ p, p = W1.heap.size := ⟨_, rfl⟩
  obtain ⟨qb, hq⟩ : ∃ qb, qb = W2.heap.size := ⟨_, rfl⟩
  have HN := hid (And.intro hn (And.intro hm (And.intro hn' hm')))
  have hpq : p ≠ qb := by omega
  have hpv : p = w.heap.size + 2 := by omega
  have hqv : qb = w.heap.size + 3 := by omega
  have hLv : L = w.heap.size + 4 := by omega
  rw [s0] at hbd
  rw [← hp] at hbp
  rw [← hq] at hbq
  have HP := hid hp
  have HQ := hid hq
  clear s0 s1 s2 s3 hp hq
  -- what is handed in, in any world in which all below L but the pairs' own cells is as it was
  have hKS : ∀ W, Keeps (fun k => k ≠ p ∧ k ≠ qb) W3 W → Keeps S w W := fun W hW => (K3.old S).trans hW fun k hk _ => ⟨by omega, by omega⟩
  have hT3 : ∀ W, Keeps (fun k => k ≠ p ∧ k ≠ qb) W3 W → Tab W := fun W hW => (hT.keep (K3.old (fun _ => True)) trivial).keep hW ⟨by omega, by omega⟩
  have hS3 : ∀ (W : World) (H : Nat → Prop), Keeps (fun k => k ≠ p ∧ k ≠ qb) W3 W → (∀ k, H k → k = p ∨ k = qb ∨ L ≤ k) → ∀ k, S k → k < W.heap.size ∧ ¬ H k := fun W H hW hH k hk => by
    have h1 := hS k hk
    have h2 := hW.size
    exact ⟨by omega, fun h => by rcases hH k h with h | h | h <;> omega⟩
  have hcr : ∀ (W : World) (H : Nat → Prop) (b : Nat) (o : Option Jn), PairAt H W b o → Keeps (fun k => k ≠ p ∧ k ≠ qb) W3 W → ¬ H 0 → wsN o ≤ 2900000000000 →
      Calls Tryd.prog 36 #[.pointer (some ⟨b, 0, none⟩), .agg #[.int .i64 6, .slice none 0 0, .slice none 0 0, .int .i64 1073741824]] W (PostPlays H W b o) := fun W H b o h1 h2 h3 h4 =>
    plays_any W H (fun _ => False) b o 6 1073741824 none none 0 0 [] [] h1 (Bts.nil _ _ _) (Rcs.nil _ _ _) (by simp) (fun _ h => h.elim) (by omega) (by omega) (hT3 W h2) h3 h4
  have hst : ∀ (W : World) (H : Nat → Prop) (b : Nat) (o : Option Jn) (k : Nat) (hk : k < l.length), PairAt H W b o → Keeps (fun k => k ≠ p ∧ k ≠ qb) W3 W → (∀ k, H k → k = p ∨ k = qb ∨ L ≤ k) → wsN o ≤ 2900000000000 →
      ∃ bb oo A c B d, C = some ⟨bb, oo, none⟩ ∧ W.cell? ⟨bb, oo + k * 4, none⟩ = some (.int .i64 l[k].kind) ∧ W.cell? ⟨bb, oo + k * 4 + 1, none⟩ = some (.slice A l[k].one.length c) ∧ W.cell? ⟨bb, oo + k * 4 + 2, none⟩ = some (.slice B l[k].many.length d) ∧ W.cell? ⟨bb, oo + k * 4 + 3, none⟩ = some (.int .i64 l[k].n) ∧
        Calls Tryd.prog 36 #[.pointer (some ⟨b, 0, none⟩), .agg #[.int .i64 l[k].kind, .slice A l[k].one.length c, .slice B l[k].many.length d, .int .i64 l[k].n]] W (PostPlays H W b o) := fun W H b o k hk h1 h2 h3 h4 => by
    obtain ⟨bb, oo, e, hSb, hx⟩ := hO.at_ hk
    obtain ⟨A, c, B, d, g0, g1, g2, g3, hcl⟩ := step_any h1 (hx.keep (hKS W h2) hSb) (hS3 W H h2 h3) (hT3 W h2) (fun h => by rcases h3 0 h with h | h | h <;> omega) h4
    exact ⟨bb, oo, A, c, B, d, e, g0, g1, g2, g3, hcl⟩
  have HST := hid (And.intro hcr hst)
  clear hcr hst
  have hfi := first_any W3 (hT3 W3 (Keeps.refl _ _))
  clear hn hm hn' hm'
  go_enter Tryd.func10, Tryd.ntmps10
  go_upto_region 1 with fail
  rw [← hW0, ← hW1]
  clear hW0 hW1
  go_upto_region 2 with fail
  rw [← hW2]
  clear hW2
  go_upto_region 3 with fail
  rw [← hW3]
  clear hW3
  go_wp2_with fail
  refine hfi.mono ?_
  rintro e w1 ⟨rfl, kf⟩
  clear hfi
  have Kf : Keeps (fun k => k ≠ p ∧ k ≠ qb) W3 w1 := kf.old _
  have b0 : w1.cell? ⟨w.heap.size, 0, none⟩ = some (.slice A n c) := cell_of_heap (kf.heap hbc trivial)
  have b1 : w1.cell? ⟨w.heap.size, 1, none⟩ = some (.slice B m d) := cell_of_heap (kf.heap hbc trivial)
  have hpo := popen_any w1 S p _ _ A B n m c d xs ys (kf.heap hbp trivial) (ha.keep (hKS w1 Kf)) (hb.keep (hKS w1 Kf)) HN.out.1 HN.out.2.1 hc hd (hT3 w1 Kf)
  have zf := kf.size
  rw [HP.out] at hpo
  go_wp2_with fail
  refine hpo.mono ?_
  rintro e w2 ⟨rfl, H, hP, hH, kp⟩
  clear hpo b0 b1
  rw [← HP.out] at hP hH kp
  have Kp : Keeps (fun k => k ≠ p ∧ k ≠ qb) W3 w2 := Kf.trans' (kp.mono fun k _ h => h.1)
  have hbe := begins_any w2 S E ce bs (hB.keep (hKS w2 Kp))
  have hws : wsN ((openJ (xs, ys)).map (·.1)) ≤ 1 := by
    cases ho : openJ (xs, ys) with
    | none => exact Nat.zero_le _
    | some jr => exact (open_down (j := jr.1) (recs := jr.2) ho).2
  have hbq2 : w2.heap[qb]? = some (.cells #[.pointer none, .pointer none] 29 (0, 0)) := kp.heap (kf.heap hbq trivial) (Ne.symm hpq)
  have hws' : wsN ((openJ (xs', ys')).map (·.1)) ≤ 1 := by
    cases ho : openJ (xs', ys') with
    | none => exact Nat.zero_le _
    | some jr => exact (open_down (j := jr.1) (recs := jr.2) ho).2
  generalize (openJ (xs, ys)).map (·.1) = o0 at *
  go_wp2_with fail
  refine hbe.mono ?_
  rintro e w2' ⟨a, rfl, hal, rfl⟩
  clear hbe
  have HQ0 : Hid (∀ k, H k → k = p ∨ L ≤ k) := hid fun k hk => by
    rcases hH k hk with h | h
    · exact .inl h
    · right; omega
  go_wp2
  go_loopw [12] (fun v wr => ∃ (k : Nat) (H' : Nat → Prop) (o' : Option Jn), v = .int .i64 k ∧ k ≤ l.length ∧ k ≤ a ∧ Hid (PairAt H' wr p o') ∧ Hid (Keeps (fun k => k ≠ p ∧ k ≠ qb) W3 wr) ∧ Hid (wr.heap[qb]? = some (.cells #[.pointer none, .pointer none] 29 (0, 0))) ∧ Hid (∀ k, H' k → k = p ∨ L ≤ k) ∧ wsN o' ≤ k + 1) (fun v _ => l.length - (intOf v).toNat)
  case atStart => exact ⟨0, H, o0, rfl, Nat.zero_le _, Nat.zero_le _, hid hP, hid Kp, hid hbq2, HQ0, hws⟩
  case round =>
    clear hP kp Kp hbq2 HQ0 hH
    obtain ⟨k, H1, o1, rfl, hk, hka, hPr, hKr, hqr, hHr, hwr⟩ := hrel
    by_cases hgo : k < l.length ∧ k < a
    · obtain ⟨hlt, hlta⟩ := hgo
      obtain ⟨bb, oo, A1, c1, B1, d1, rfl, h0, h1, h2, h3, hcl⟩ := HST.out.2 wr H1 p o1 k hlt hPr.out hKr.out (fun k h => by rcases hHr.out k h with h | h; exact .inl h; exact .inr (.inr h)) (by omega)
      generalize l[k] = x at *
      have i1 : (0 : Int) ≤ (k : Int) := by omega
      have i2 : (k : Int) < (l.length : Int) := by omega
      have i3 : (k : Int) < (a : Int) := by omega
      rw [HP.out] at hcl
      go_wp2_with fail
      refine hcl.mono ?_
      rintro e w3 ⟨rfl, H3, o3, hP3, hH3, k3, hw3⟩
      clear hcl
      rw [← HP.out] at hP3
      have hzr := hKr.out.size
      go_wp2
      refine ⟨⟨k + 1, H3, o3, by go_num, by omega, by omega, hid hP3, hid (hKr.out.trans k3 fun j hj hne h => ?_), hid (k3.heap hqr.out fun h => ?_), hid fun j h => ?_, by omega⟩, by simp [intOf]; omega⟩
      · rcases hHr.out j h with h | h
        · exact hne.1 h
        · omega
      · rcases hHr.out qb h with h | h
        · exact hpq h.symm
        · omega
      · rcases hH3 j h with h | h
        · exact hHr.out j h
        · right; omega
    · have hzr := hKr.out.size
      have b0 : wr.cell? ⟨w.heap.size + 1, 0, none⟩ = some (.slice A' n' c') := cell_of_heap (hKr.out.heap hbd ⟨by omega, by omega⟩)
      have b1 : wr.cell? ⟨w.heap.size + 1, 1, none⟩ = some (.slice B' m' d') := cell_of_heap (hKr.out.heap hbd ⟨by omega, by omega⟩)
      have hpo := popen_any wr S qb _ _ A' B' n' m' c' d' xs' ys' hqr.out (ha'.keep (hKS wr hKr.out)) (hb'.keep (hKS wr hKr.out)) HN.out.2.2.1 HN.out.2.2.2 hc' hd' (hT3 wr hKr.out)
      rw [HQ.out] at hpo
      generalize (openJ (xs', ys')).map (·.1) = o2 at *
      have hex : ¬ k < l.length ∨ (k < l.length ∧ ¬ k < a) := by omega
      rcases hex with hex | ⟨hex, hex2⟩
      all_goals (
        go_upto_region 11 with fail
        go_wp2_with fail
        refine hpo.mono ?_
        rintro e w5 ⟨rfl, H2, hP2, hH2, k5⟩
        clear hpo b0 b1
        rw [← HQ.out] at hP2 hH2 k5
        have K5 : Keeps (fun k => k ≠ p ∧ k ≠ qb) W3 w5 := hKr.out.trans' (k5.mono fun k _ h => h.2)
        have hP5 := hPr.out.keep (k5.mono fun k _ h => by
          rcases hHr.out k h with h | h
          · rw [h]; exact hpq
          · show k ≠ qb; omega)
        have hcl := HST.out.1 w5 H1 p o1 hP5 K5 (fun h => by rcases hHr.out 0 h with h | h <;> omega) (by omega)
        rw [HP.out] at hcl
        go_wp2_with fail
        refine hcl.mono ?_
        rintro e w6 ⟨rfl, H6, o6, hP6, hH6, k6, hw6⟩
        clear hcl
        rw [← HP.out] at hP6
        have z5 := k5.size
        have hlt1 := hPr.out.2.1
        have hd12 : ∀ k, H1 k → ¬ H2 k := fun k g1 g2 => by
          have := hlt1 k g1
          rcases hH2 k g2 with h | h
          · rcases hHr.out k g1 with h' | h' <;> omega
          · omega
        have hR : InTwo W3 p qb l.length a w6 := ⟨H6, H2, o6, o2, hP6, hP2.keep (k6.mono fun k _ g2 g1 => hd12 k g1 g2), fun k g6 g2 => by
            rcases hH6 k g6 with h | h
            · exact hd12 k h g2
            · have := hP2.2.1 k g2; omega, fun k h => by
            rcases hH6 k h with h | h
            · rw [← hL]; exact hHr.out k h
            · right; omega, fun k h => by
            rcases hH2 k h with h | h
            · exact .inl h
            · right; omega, K5.trans k6 fun j hj hne h => by
            rcases hHr.out j h with h | h
            · exact hne.1 h
            · omega, by omega, by omega⟩
        have HR := hid hR
        clear hR hP6 hP2 hP5 hH6 hH2 k5 k6 K5 hd12 hlt1
        go_wp2
        go_loopw [13, 14, 15] (fun v _ _ wr => ∃ k : Nat, v = .int .i64 k ∧ k ≤ 281474976710656 ∧ Hid (InTwo W3 p qb l.length k wr)) (fun v _ _ _ => l.length - (intOf v).toNat)
        case atStart => exact ⟨a, rfl, by omega, HR⟩
        case round =>
          clear HR hPr hKr hqr hHr hwr
          obtain ⟨k, rfl, hk48, hin⟩ := hrel
          obtain ⟨H1, H2, o1, o2, hP1, hP2, h12, hH1, hH2, hKr, hw1, hw2⟩ := hin.out
          rw [← hL] at hH1 hH2
          have hzr := hKr.size
          by_cases hlt : k < l.length
          · have i1 : (0 : Int) ≤ (k : Int) := by omega
            have i2 : (k : Int) < (l.length : Int) := by omega
            by_cases hsec : ∃ h : k < bs.length, bs[k] = true
            · obtain ⟨hkb, hbt⟩ := hsec
              obtain ⟨bE, oE, hE, hc0⟩ := (hB.keep (hKS wr hKr)).at_ hkb
              subst hE
              rw [hbt] at hc0
              have i3 : (k : Int) < (bs.length : Int) := by omega
              obtain ⟨bb, oo, A1, c1, B1, d1, hC, g0, g1, g2, g3, hcl⟩ := HST.out.2 wr H2 qb o2 k hlt hP2 hKr (fun k h => by rcases hH2 k h with h | h; exact .inr (.inl h); exact .inr (.inr h)) (by omega)
              subst hC
              rw [HQ.out] at hcl
              clear hbt
              go_wp2_with fail
              refine hcl.mono ?_
              rintro e w7 ⟨rfl, H7, o7, hP7, hH7, k7, hw7⟩
              clear hcl g0 g1 g2 g3 hc0
              rw [← HQ.out] at hP7
              have z7 := k7.size
              have K7 : Keeps (fun k => k ≠ p ∧ k ≠ qb) W3 w7 := hKr.trans k7 fun j hj hne h => by
                rcases hH2 j h with h | h
                · exact hne.2 h
                · omega
              obtain ⟨W8, hW8⟩ : ∃ W, W = w7.alloc (.cells #[.pointer none, .pointer none] 29) := ⟨_, rfl⟩
              have k8 : Old w7 W8 := by rw [hW8]; exact (Keeps.refl _ _).alloc _
              have hx8 : W8.heap[w7.heap.size]? = some (.cells #[.pointer none, .pointer none] 29 (0, 0)) := by rw [hW8]; exact heap_alloc_new _ _
              have K8 := K7.trans' (k8.old _)
              have z8 := k8.size
              have b0 : W8.cell? ⟨w.heap.size + 1, 0, none⟩ = some (.slice A' n' c') := cell_of_heap (K8.heap hbd ⟨by omega, by omega⟩)
              have b1 : W8.cell? ⟨w.heap.size + 1, 1, none⟩ = some (.slice B' m' d') := cell_of_heap (K8.heap hbd ⟨by omega, by omega⟩)
              have hpo := popen_any W8 S w7.heap.size _ _ A' B' n' m' c' d' xs' ys' hx8 (ha'.keep (hKS W8 K8)) (hb'.keep (hKS W8 K8)) HN.out.2.2.1 HN.out.2.2.2 hc' hd' (hT3 W8 K8)
              have hwo : wsN ((openJ (xs', ys')).map (·.1)) ≤ 1 := by
                cases ho : openJ (xs', ys') with
                | none => exact Nat.zero_le _
                | some jr => exact (open_down (j := jr.1) (recs := jr.2) ho).2
              generalize (openJ (xs', ys')).map (·.1) = ox at *
              go_upto_region 21 with fail
              rw [← hW8]
              clear hW8
              go_wp2_with fail
              refine hpo.mono ?_
              rintro e w9 ⟨rfl, H9, hP9, hH9, k9⟩
              clear hpo b0 b1
              have z9 := k9.size
              have K9 : Keeps (fun k => k ≠ p ∧ k ≠ qb) W3 w9 := K8.trans k9 fun j hj _ => by show j ≠ w7.heap.size; omega
              obtain ⟨bb2, oo2, A2, c2, B2, d2, hC2, g0, g1, g2, g3, hcl⟩ := HST.out.2 w9 H9 w7.heap.size ox k hlt hP9 K9 (fun k h => by rcases hH9 k h with h | h <;> (right; right; omega)) (by omega)
              injection hC2 with hC2
              injection hC2 with e1 e2 _
              subst e1 e2
              go_wp2_with fail
              refine hcl.mono ?_
              rintro e w10 ⟨rfl, H10, o10, hP10, hH10, k10, hw10⟩
              clear hcl g0 g1 g2 g3
              have z10 := k10.size
              have h9lo : ∀ k, H9 k → w7.heap.size ≤ k := fun k h => by rcases hH9 k h with h | h <;> omega
              have kx : Keeps (fun k => k < w7.heap.size) w7 w10 := ((k8.old _).trans k9 fun k hk h => by show k ≠ w7.heap.size; omega).trans k10 fun k hk h h9 => by have := h9lo k h9; omega
              have hR : InTwo W3 p qb l.length (k + 1) w10 := ⟨H1, H7, o1, o7, (hP1.keep (k7.mono fun k _ g1 g2 => h12 k g1 g2)).keep (kx.mono fun k hk h => hk), hP7.keep (kx.mono fun k hk h => hk), fun k g1 g7 => by
                  rcases hH7 k g7 with h | h
                  · exact h12 k g1 h
                  · have := hP1.2.1 k g1; omega, fun k h => by rw [← hL]; exact hH1 k h, fun k h => by
                  rcases hH7 k h with h | h
                  · rw [← hL]; exact hH2 k h
                  · right; omega, K9.trans k10 fun j hj hne h => by have := h9lo j h; omega, by omega, by omega⟩
              have HR := hid hR
              clear hR hP10 hP9 hP7 hP1 hP2 kx k7 k8 k9 k10 K7 K8 K9 hKr
              go_wp2
              exact ⟨⟨k + 1, by go_num, by omega, HR⟩, by simp [intOf]; omega⟩
            · obtain ⟨bb, oo, A1, c1, B1, d1, hC, g0, g1, g2, g3, hcl⟩ := HST.out.2 wr H1 p o1 k hlt hP1 hKr (fun k h => by rcases hH1 k h with h | h; exact .inl h; exact .inr (.inr h)) (by omega)
              subst hC
              rw [HP.out] at hcl
              have hsec2 : ¬ (k : Int) < (bs.length : Int) ∨ ((k : Int) < (bs.length : Int) ∧ ∃ bE oE, E = some ⟨bE, oE, none⟩ ∧ wr.cell? ⟨bE, oE + k, none⟩ = some (.bool false)) := by
                by_cases hkb : k < bs.length
                · obtain ⟨bE, oE, hE, hc0⟩ := (hB.keep (hKS wr hKr)).at_ hkb
                  right
                  refine ⟨by omega, bE, oE, hE, ?_⟩
                  have : bs[k] = false := by
                    cases hb : bs[k] with
                    | false => rfl
                    | true => exact absurd ⟨hkb, hb⟩ hsec
                  rw [hc0, this]
                · left; omega
              clear hsec
              have fin : ∀ (w7 : World) (H7 : Nat → Prop) (o7 : Option Jn), PairAt H7 w7 p o7 → (∀ k, H7 k → H1 k ∨ wr.heap.size ≤ k) → Keeps (fun k => ¬ H1 k) wr w7 → wsN o7 ≤ wsN o1 + 1 → InTwo W3 p qb l.length (k + 1) w7 := fun w7 H7 o7 hP7 hH7 k7 hw7 => by
                refine ⟨H7, H2, o7, o2, hP7, hP2.keep (k7.mono fun k _ g2 g1 => h12 k g1 g2), fun k g7 g2 => ?_, fun k h => ?_, fun k h => by rw [← hL]; exact hH2 k h, hKr.trans k7 fun j hj hne h => ?_, by omega, by omega⟩
                · rcases hH7 k g7 with h | h
                  · exact h12 k h g2
                  · have := hP2.2.1 k g2; omega
                · rcases hH7 k h with h | h
                  · rw [← hL]; exact hH1 k h
                  · right; omega
                · rcases hH1 j h with h | h
                  · exact hne.1 h
                  · omega
              have FIN := hid fin
              clear fin
              rcases hsec2 with i3 | ⟨i3, bE, oE, hE, hc0⟩
              · go_wp2_with fail
                refine hcl.mono ?_
                rintro e w7 ⟨rfl, H7, o7, hP7, hH7, k7, hw7⟩
                clear hcl g0 g1 g2 g3
                rw [← HP.out] at hP7
                have HR := hid (FIN.out w7 H7 o7 hP7 hH7 k7 hw7)
                clear hP7 k7
                go_wp2
                exact ⟨⟨k + 1, by go_num, by omega, HR⟩, by simp [intOf]; omega⟩
              · subst hE
                go_wp2_with fail
                refine hcl.mono ?_
                rintro e w7 ⟨rfl, H7, o7, hP7, hH7, k7, hw7⟩
                clear hcl g0 g1 g2 g3
                rw [← HP.out] at hP7
                have HR := hid (FIN.out w7 H7 o7 hP7 hH7 k7 hw7)
                clear hP7 k7
                go_wp2
                exact ⟨⟨k + 1, by go_num, by omega, HR⟩, by simp [intOf]; omega⟩
          · have i2 : ¬ (k : Int) < (l.length : Int) := by omega
            have hcl := HST.out.1 wr H1 p o1 hP1 hKr (fun h => by rcases hH1 0 h with h | h <;> omega) (by omega)
            rw [HP.out] at hcl
            go_wp2_with fail
            refine hcl.mono ?_
            rintro e w7 ⟨rfl, H7, o7, hP7, hH7, k7, hw7⟩
            clear hcl
            have z7 := k7.size
            have K7 : Keeps (fun k => k ≠ p ∧ k ≠ qb) W3 w7 := hKr.trans k7 fun j hj hne h => by
              rcases hH1 j h with h | h
              · exact hne.1 h
              · omega
            have hcl := HST.out.1 w7 H2 qb o2 (hP2.keep (k7.mono fun k _ g2 g1 => h12 k g1 g2)) K7 (fun h => by rcases hH2 0 h with h | h <;> omega) (by omega)
            rw [HQ.out] at hcl
            go_wp2_with fail
            refine hcl.mono ?_
            rintro e w8 ⟨rfl, H8, o8, hP8, hH8, k8, hw8⟩
            clear hcl
            go_wp2
            go_ret
            refine ⟨rfl, (K3.trans K7 fun k hk _ => ⟨by omega, by omega⟩).trans k8 fun k hk _ h => ?_⟩
            rcases hH2 k h with h | h <;> omega)
end Go.Proofs.YtdpaaoeipconcaaDoor
