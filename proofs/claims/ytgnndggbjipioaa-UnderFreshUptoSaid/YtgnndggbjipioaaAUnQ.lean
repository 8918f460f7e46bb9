/- weftlaw18.untouched: the two nets beside what is held of them, round by round. Plain theorems; no conditions beyond those written. -/
import Derived.Test.YtgnndggbjipioaaAUnP
import Derived.Test.YtgnndggbjipioaaAFirst
namespace Go.Proofs.Ytgnndggbjipioaa
open Go.RowKit

/-- ahead of a round of the first loop; G: blocks beside -/
def InUn (G : Nat → Prop) (w : World) (gn gm lim n m : Nat) (vA vB : Value) (wr : World) : Prop :=
  ∃ (H FB : Nat → Prop) (qb : List (List UInt8 × Value)) (es : List (Value × List (Pk × Value) × (Nat → Prop))), Twin H wr gn gm lim ∧ UnL w.heap.size FB wr vA vB qb es ∧ qb.length ≤ n ∧ es.length ≤ m ∧ Old w wr ∧
    ∀ k, H k ∨ G k → w.heap.size ≤ k ∧ k < wr.heap.size ∧ ¬ FB k ∧ vA.ownBlock ≠ some k ∧ ∀ e ∈ es, ¬ e.2.2 k

theorem InUn.more {G G' : Nat → Prop} {w wr w' : World} {gn gm lim n m n' m' : Nat} {vA vB : Value} (h : InUn G w gn gm lim n m vA vB wr) (hk : Old wr w') (hn : n ≤ n') (hm : m ≤ m') (hG : ∀ k, G' k → G k ∨ (wr.heap.size ≤ k ∧ k < w'.heap.size)) : InUn G' w gn gm lim n' m' vA vB w' := by
  obtain ⟨H, FB, qb, es, hT, hU, hl, hl2, hO, hX⟩ := h
  have hz := hk.size
  have hz0 := hO.size
  refine ⟨H, FB, qb, es, hT.keep (hk.old _), hU.keep (hk.old _), by omega, by omega, hO.trans' hk, fun k hk' => ?_⟩
  rcases (show (H k ∨ G k) ∨ (wr.heap.size ≤ k ∧ k < w'.heap.size) by
    rcases hk' with h | h
    · exact .inl (.inl h)
    · rcases hG k h with h | h
      · exact .inl (.inr h)
      · exact .inr h) with h | h
  · obtain ⟨a, b, c⟩ := hX k h
    exact ⟨a, by omega, c⟩
  · refine ⟨by omega, h.2, fun hf => by have := hU.fb k hf; omega, fun e => by have := own_lt hU.rowA e; omega, fun e he hf => ?_⟩
    have := (hU.each e he).2.2.2 k hf
    omega

/-- Behind plays. -/
theorem InUn.plays {G H : Nat → Prop} {w wr w' : World} {gn gm lim n m : Nat} {vA vB : Value} {FB : Nat → Prop} {qb : List (List UInt8 × Value)} {es : List (Value × List (Pk × Value) × (Nat → Prop))} {e : Ending} (hU : UnL w.heap.size FB wr vA vB qb es) (hl : qb.length ≤ n) (hl2 : es.length ≤ m) (hO : Old w wr)
    (hX : ∀ k, H k ∨ G k → w.heap.size ≤ k ∧ k < wr.heap.size ∧ ¬ FB k ∧ vA.ownBlock ≠ some k ∧ ∀ e ∈ es, ¬ e.2.2 k) (hp : PostPlays H wr gn gm lim e w') (hGH : ∀ k, G k → ¬ H k) :
    InUn G w gn gm lim n m vA vB w' ∧ Keeps G wr w' := by
  obtain ⟨_, H2, hT, hH, k9⟩ := hp
  have hz := k9.size
  have hzo := hO.size
  refine ⟨⟨H2, FB, qb, es, hT, hU.keep (k9.mono fun i _ hi hh => ?_), hl, hl2, hO.trans k9 fun i hi _ hh => by have := hX i (.inl hh); omega, fun i hi => ?_⟩, k9.mono fun i _ hg => hGH i hg⟩
  · obtain ⟨_, _, x2, x3, x4⟩ := hX i (.inl hh)
    rcases hi with hi | hi | ⟨e, he, hi⟩
    · exact x2 hi
    · exact x3 hi
    · exact x4 e he hi
  · rcases hi with hi | hi
    · have hl9 := hT.lt i hi
      rcases hH i hi with h' | h'
      · obtain ⟨x0, x1, x2⟩ := hX i (.inl h')
        exact ⟨x0, hl9, x2⟩
      · refine ⟨by omega, hl9, fun hf => by have := hU.fb i hf; omega, fun e => by have := own_lt hU.rowA e; omega, fun e he hf => ?_⟩
        have := (hU.each e he).2.2.2 i hf
        omega
    · obtain ⟨x0, x1, x2⟩ := hX i (.inr hi)
      exact ⟨x0, by omega, x2⟩

section
variable {G H FB : Nat → Prop} {w wr : World} {gn gm lim n m : Nat} {vA vB : Value} {qb : List (List UInt8 × Value)} {es : List (Value × List (Pk × Value) × (Nat → Prop))}

/-- Behind both Takes and the append of the bytes taken. -/
theorem InUn.take {F Gm F' G1 G' : Nat → Prop} {w1 w2 w3 w4 w5 : World} {Ln Lm L' M' v1 vB2 : Value} {q r q' r' : List (Pk × Value)} {bs : List UInt8} (hU : UnL w.heap.size FB wr vA vB qb es) (hl : qb.length ≤ n) (hl2 : es.length ≤ m) (hO : Old w wr)
    (hX : ∀ k, H k ∨ G k → w.heap.size ≤ k ∧ k < wr.heap.size ∧ ¬ FB k ∧ vA.ownBlock ≠ some k ∧ ∀ e ∈ es, ¬ e.2.2 k) (hGH : ∀ k, G k → ¬ H k)
    (hN : UNet F wr gn lim Ln q) (hR : RNet Gm wr gm lim Lm r) (hFG : ∀ k, F k → ¬ Gm k) (hFH : ∀ k, F k → H k) (hGmH : ∀ k, Gm k → H k)
    (hN1 : UNet F' w1 gn lim L' q') (ho1 : OwnB G1 w1 v1 bs) (hF' : ∀ k, F' k → F k) (hG1 : ∀ k, G1 k → F k) (hFG1 : ∀ k, F' k → ¬ G1 k) (K1 : Keeps (fun k => ¬ F k) wr w1) (k1 : Old w1 w2)
    (hR2 : RNet G' w3 gm lim M' r') (hG' : ∀ k, G' k → Gm k ∨ w2.heap.size ≤ k) (K2 : Keeps (fun k => ¬ Gm k) w2 w3) (hqr : q'.map (·.1) = r'.map (·.1)) (hlen : bs.length ≤ 65535) (k3 : Old w3 w4)
    (hown : w5.ownsRow 0 46 1 vB2 (qb.length + 1) (qb.map (·.2) ++ [v1])) (hg : w4.grownBy w5 vB.ownBlock) (hat : vB2.ownBlock = vB.ownBlock ∨ vB2.ownBlock = some w4.heap.size) :
    InUn G w gn gm lim (n + 1) m vA vB2 w5 ∧ Keeps G wr w5 := by
  have z0 := hO.size
  have z1 := K1.size
  have z2 := k1.size
  have z3 := K2.size
  have z4 := k3.size
  have hHF : ∀ {w w' : World}, Keeps (fun k => ¬ F k) w w' → Keeps (fun k => ¬ H k) w w' := fun h => h.mono fun k _ hh hf => hh (hFH k hf)
  have hHG : ∀ {w w' : World}, Keeps (fun k => ¬ Gm k) w w' → Keeps (fun k => ¬ H k) w w' := fun h => h.mono fun k _ hh hf => hh (hGmH k hf)
  have K3 : Keeps (fun k => ¬ H k) wr w3 := ((hHF K1).trans' (k1.old _)).trans' (hHG K2)
  have hU3 := hU.keep (K3.mono fun i _ hi hh => by
    obtain ⟨_, _, x2, x3, x4⟩ := hX i (.inl hh)
    rcases hi with hi | hi | ⟨e, he, hi⟩
    · exact x2 hi
    · exact x3 hi
    · exact x4 e he hi)
  have hv3 : OwnB G1 w3 v1 bs := (ho1.keep (k1.old _)).keep (K2.mono fun k _ hg => hFG k (hG1 k hg))
  have hvlt : ∀ k, v1.ownBlock = some k → k < w1.heap.size := fun k hk => own_lt ho1.row hk
  have hvF : ∀ k, v1.ownBlock = some k → F k := fun k hk => hG1 k (ho1.foot k hk)
  obtain ⟨hS1, hS2, hS3⟩ := hU3.pushB (by omega) hv3 hlen (fun k hk => by
    obtain ⟨x0, _, x2, x3, x4⟩ := hX k (.inl (hFH k (hvF k hk)))
    exact ⟨x0, x2, x3, x4⟩) k3 hown hg hat
  have z5 := hS2.size
  have hFlt := hN.lt
  have hGlt := hR.lt
  have hHlt : ∀ k, H k → k < wr.heap.size := fun k hk => (hX k (.inl hk)).2.1
  have hHB : ∀ k, H k → vB.ownBlock ≠ some k := fun k hk e => (hX k (.inl hk)).2.2.1 (hU.footB k e)
  refine ⟨⟨fun k => F' k ∨ G' k, _, _, es, ⟨F', G', L', M', q', r', ((hN1.keep (k1.old _)).keep (K2.mono fun k _ hf => hFG k (hF' k hf))).keep (hS2.mono fun k _ hf => hHB k (hFH k (hF' k hf))), hR2.keep (hS2.mono fun k _ hf e => ?_), hqr, fun k hf hg => ?_, fun k h => .inl h, fun k h => .inr h, fun k hk => ?_⟩, hS1, by rw [List.length_append]; show qb.length + 1 ≤ _; omega, hl2, (hO.trans K3 fun k hk _ hh => by have := hX k (.inl hh); omega).trans hS2 fun k hk _ e => ?_, fun k hk => ?_⟩, (K3.mono fun k _ hk => hGH k hk).trans hS2 fun k _ hk e => (hX k (.inr hk)).2.2.1 (hU.footB k e)⟩
  · rcases hG' k hf with h | h
    · exact hHB k (hGmH k h) e
    · have := own_lt hU.rowB e; omega
  · rcases hG' k hg with h | h
    · exact hFG k (hF' k hf) h
    · have := hFlt k (hF' k hf); omega
  · rcases hk with hk | hk
    · have := hFlt k (hF' k hk); omega
    · have := hR2.lt k hk; omega
  · have := (hU.fb k (hU.footB k e)).1; omega
  · have hcase : (w.heap.size ≤ k ∧ k < w3.heap.size ∧ ¬ FB k ∧ v1.ownBlock ≠ some k ∧ vA.ownBlock ≠ some k ∧ ∀ e ∈ es, ¬ e.2.2 k) := by
      rcases hk with (hk | hk) | hk
      · obtain ⟨x0, x1, x2, x3, x4⟩ := hX k (.inl (hFH k (hF' k hk)))
        exact ⟨x0, by omega, x2, fun e => hFG1 k hk (ho1.foot k e), x3, x4⟩
      · rcases hG' k hk with h | h
        · obtain ⟨x0, x1, x2, x3, x4⟩ := hX k (.inl (hGmH k h))
          exact ⟨x0, by omega, x2, fun e => hFG k (hvF k e) h, x3, x4⟩
        · exact ⟨by omega, hR2.lt k hk, fun hf => by have := hU.fb k hf; omega, fun e => by have := hvlt k e; omega, fun e => by have := own_lt hU.rowA e; omega, fun e he hf => by have := (hU.each e he).2.2.2 k hf; omega⟩
      · obtain ⟨x0, x1, x2, x3, x4⟩ := hX k (.inr hk)
        exact ⟨x0, by omega, x2, fun e => hGH k hk (hFH k (hvF k e)), x3, x4⟩
    obtain ⟨c0, c1, c2, c3, c4, c5⟩ := hcase
    refine ⟨c0, by omega, fun hf => ?_, c4, c5⟩
    rcases hf with hf | hf | hf
    · exact c2 hf
    · exact c3 hf
    · exact hS3 k c1 (fun e => c2 (hU.footB k e)) hf

/-- Behind two Lists and their append. -/
theorem InUn.lists {w1 w2 W2 w3 : World} {L1 L2 vA2 : Value} {q1 q2 : List (Pk × Value)} (hT : Twin H wr gn gm lim) (hU : UnL w.heap.size FB wr vA vB qb es) (hl : qb.length ≤ n) (hl2 : es.length ≤ m) (hO : Old w wr)
    (hX : ∀ k, H k ∨ G k → w.heap.size ≤ k ∧ k < wr.heap.size ∧ ¬ FB k ∧ vA.ownBlock ≠ some k ∧ ∀ e ∈ es, ¬ e.2.2 k)
    (h1 : Flight (fun k => wr.heap.size ≤ k) w1 L1 q1) (k1 : Old wr w1) (h2 : Flight (fun k => w1.heap.size ≤ k) w2 L2 q2) (k2 : Old w1 w2) (hn1 : q1.length ≤ 4096) (hn2 : q2.length ≤ 4096) (hs1 : ∀ x ∈ q1, x.1.2.length ≤ 65535) (hs2 : ∀ x ∈ q2, x.1.2.length ≤ 65535) (k3 : Old w2 W2)
    (ho3 : w3.ownsRow 0 34 1 vA2 (es.length + 2) (es.map (·.1) ++ [L1, L2])) (hg3 : W2.grownBy w3 vA.ownBlock) (hat3 : vA2.ownBlock = vA.ownBlock ∨ vA2.ownBlock = some W2.heap.size) :
    InUn G w gn gm lim n (m + 2) vA2 vB w3 ∧ Keeps G wr w3 ∧ ∃ F2, Flight F2 w3 L2 q2 := by
  have z0 := hO.size
  have z1 := k1.size
  have z2 := k2.size
  obtain ⟨hS1, hS2, hS3⟩ := hU.pushL (by omega) (k1.trans' k2) (F1 := fun k => wr.heap.size ≤ k ∧ k < w1.heap.size) (F2 := fun k => w1.heap.size ≤ k ∧ k < w2.heap.size) ((h1.mono fun k hk hf => ⟨hf, hk⟩).keep (k2.old _)) (h2.mono fun k hk hf => ⟨hf, hk⟩) (fun k hk => ⟨hk.1, by omega, fun h => by omega⟩) (fun k hk => ⟨by omega, hk.2⟩) hn1 hn2 hs1 hs2 k3 ho3 hg3 hat3
  have z3 := hS2.size
  refine ⟨⟨H, FB, qb, _, hT.keep (hS2.mono fun k _ hh => (hX k (.inl hh)).2.2.2.1), hS1, hl, by rw [List.length_append]; show es.length + 2 ≤ _; omega, hO.trans hS2 fun k hk _ e => by have := hU.fa k e; omega, fun k hk => ?_⟩, hS2.mono fun k _ hk => (hX k (.inr hk)).2.2.2.1, _, (hS1.each (L2, q2, fun k => w1.heap.size ≤ k ∧ k < w2.heap.size) (by simp)).1⟩
  obtain ⟨x0, x1, x2, x3, x4⟩ := hX k hk
  refine ⟨x0, by omega, x2, hS3 k x1 x3, fun e he hf => ?_⟩
  rcases List.mem_append.1 he with he | he
  · exact x4 e he hf
  · have he' : e = (L1, q1, fun k => wr.heap.size ≤ k ∧ k < w1.heap.size) ∨ e = (L2, q2, fun k => w1.heap.size ≤ k ∧ k < w2.heap.size) := by simpa using he
    rcases he' with rfl | rfl
    · have hf' : wr.heap.size ≤ k ∧ k < w1.heap.size := hf
      omega
    · have hf' : w1.heap.size ≤ k ∧ k < w2.heap.size := hf
      omega
end
end Go.Proofs.Ytgnndggbjipioaa
