/- weftlaw18.UnderFresh: the nets and the book, round by round. Plain theorems; no conditions beyond those written. -/
import Derived.Test.YtgnndggbjipioaaAHand
namespace Go.Proofs.Ytgnndggbjipioaa
open Go.RowKit

/-- how sizes grow, a name each -/
def nF (r : Nat) : Nat := r * 4300000
def zF (r : Nat) : Nat := r * 2000000000000
theorem nF_zero : nF 0 = 0 := rfl
theorem zF_zero : zF 0 = 0 := rfl
theorem nF_succ (r : Nat) : nF (r + 1) = nF r + 4300000 := Nat.succ_mul _ _
theorem zF_succ (r : Nat) : zF (r + 1) = zF r + 2000000000000 := Nat.succ_mul _ _
theorem nF_le {r : Nat} (h : r ≤ 209716) : nF r ≤ 1000000000000 := Nat.le_trans (Nat.mul_le_mul_right _ h) (by decide)
theorem zF_le {r : Nat} (h : r ≤ 209716) : zF r ≤ 500000000000000000 := Nat.le_trans (Nat.mul_le_mul_right _ h) (by decide)

/-- between rounds -/
structure FrH (w : World) (gn gm lm pb N Z : Nat) (H : Nat → Prop) (wr : World) : Prop where
  t : Twin H wr gn gm lm
  hn : ∀ i, H i → w.heap.size ≤ i
  b : Bk (fun i => i < w.heap.size ∨ H i) pb N Z wr
  old : Old w wr

/-- within a round: what is handed in lies in blocks from b0 up to b1 -/
structure MidH (w : World) (gn gm lm pb N Z b0 b1 : Nat) (H : Nat → Prop) (wB wr : World) : Prop where
  t : Twin H wr gn gm lm
  hn : ∀ i, H i → w.heap.size ≤ i ∧ ¬ (b0 ≤ i ∧ i < b1)
  b : Bk (fun i => (i < w.heap.size ∨ (b0 ≤ i ∧ i < b1)) ∨ H i) pb N Z wr
  k : Keeps (fun i => i < w.heap.size ∨ (b0 ≤ i ∧ i < b1)) wB wr

section
variable {w wr w' wB w5 : World} {gn gm lm pb N Z N' Z' b0 b1 : Nat} {H : Nat → Prop}
theorem FrH.more (h : FrH w gn gm lm pb N Z H wr) (hN : N ≤ N') (hZ : Z ≤ Z') : FrH w gn gm lm pb N' Z' H wr := ⟨h.t, h.hn, h.b.more hN hZ, h.old⟩
theorem MidH.more (h : MidH w gn gm lm pb N Z b0 b1 H wB wr) (hN : N ≤ N') (hZ : Z ≤ Z') : MidH w gn gm lm pb N' Z' b0 b1 H wB wr := ⟨h.t, h.hn, h.b.more hN hZ, h.k⟩
theorem FrH.keep (h : FrH w gn gm lm pb N Z H wr) (hk : Old wr w') : FrH w gn gm lm pb N Z H w' := ⟨h.t.keep (hk.old _), h.hn, (h.b.keep (hk.old _)).less fun _ hi => .inl hi, h.old.trans' hk⟩
/-- A round begins. -/
theorem FrH.mid (h : FrH w gn gm lm pb N Z H wr) (hk : Old wr w') : MidH w gn gm lm pb N Z wr.heap.size w'.heap.size H w' w' := by
  refine ⟨h.t.keep (hk.old _), fun i hi => ⟨h.hn i hi, fun hh => by have := h.t.lt i hi; omega⟩, (h.b.keep (hk.old _)).less fun i hi => ?_, Keeps.refl _ _⟩
  rcases hi with (hi | hi) | hi
  · exact .inl (.inl hi)
  · exact .inr hi
  · exact .inl (.inr hi)
/-- Behind plays. -/
theorem MidH.plays {e : Ending} (h : MidH w gn gm lm pb N Z b0 b1 H wB wr) (hw : w.heap.size ≤ wr.heap.size) (hb : b1 ≤ wr.heap.size) (hp : PostPlays H wr gn gm lm e w') : ∃ H', MidH w gn gm lm pb N Z b0 b1 H' wB w' := by
  obtain ⟨_, H', hT, hH, k9⟩ := hp
  refine ⟨H', hT, fun i hi => ?_, (h.b.keep (k9.mono fun i _ hi hh => hi (.inr hh))).less fun i hi => ?_, h.k.trans k9 fun i _ hi hh => ?_⟩
  · rcases hH i hi with h' | h'
    · exact h.hn i h'
    · exact ⟨by omega, by omega⟩
  · rcases hi with hi | hi
    · exact .inl (.inl hi)
    · rcases hH i hi with h' | h'
      · exact .inl (.inr h')
      · exact .inr ⟨h', hT.lt i hi⟩
  · rcases hi with hi | hi
    · have := (h.hn i hh).1; omega
    · exact (h.hn i hh).2 hi

/-- Behind both Takes, ahead of keep. -/
theorem MidH.take1 {F Gm G1 : Nat → Prop} {w1 w2 w3 w4 : World} {Ln Lm v1 : Value} {q r : List (Pk × Value)} {bs : List UInt8} (h : MidH w gn gm lm pb N Z b0 b1 H wB wr)
    (_ : UNet F wr gn lm Ln q) (_ : RNet Gm wr gm lm Lm r) (hFG : ∀ k, F k → ¬ Gm k) (hFH : ∀ k, F k → H k) (hGmH : ∀ k, Gm k → H k)
    (ho1 : OwnB G1 w1 v1 bs) (hG1 : ∀ k, G1 k → F k) (K1 : Keeps (fun k => ¬ F k) wr w1) (k1 : Old w1 w2)
    (K2 : Keeps (fun k => ¬ Gm k) w2 w3) (k3 : Old w3 w4) :
    Bk (fun i => ((i < w.heap.size ∨ (b0 ≤ i ∧ i < b1)) ∨ H i) ∨ (wr.heap.size ≤ i ∧ i < w4.heap.size)) pb N Z w4 ∧ OwnB G1 w4 v1 bs ∧ Keeps (fun i => ¬ H i) wr w4 := by
  have KH : Keeps (fun k => ¬ H k) wr w4 := (((K1.mono fun k _ hh hf => hh (hFH k hf)).trans' (k1.old _)).trans' (K2.mono fun k _ hh hf => hh (hGmH k hf))).trans' (k3.old _)
  exact ⟨h.b.keep (KH.mono fun i _ hi hh => hi (.inr hh)), ((ho1.keep (k1.old _)).keep (K2.mono fun k _ hg => hFG k (hG1 k hg))).keep (k3.old _), KH⟩

/-- Behind keep. -/
theorem MidH.take2 {F Gm F' G1 G' : Nat → Prop} {w1 w2 w3 w4 w7 : World} {Ln Lm L' M' v1 : Value} {q r q' r' : List (Pk × Value)} {bs : List UInt8} (h : MidH w gn gm lm pb N Z b0 b1 H wB wr) (hw : w.heap.size ≤ wr.heap.size) (hb : b1 ≤ wr.heap.size)
    (hN : UNet F wr gn lm Ln q) (_ : RNet Gm wr gm lm Lm r) (hFG : ∀ k, F k → ¬ Gm k) (hFH : ∀ k, F k → H k) (hGmH : ∀ k, Gm k → H k)
    (hN1 : UNet F' w1 gn lm L' q') (ho1 : OwnB G1 w1 v1 bs) (hF' : ∀ k, F' k → F k) (hG1 : ∀ k, G1 k → F k) (hFG1 : ∀ k, F' k → ¬ G1 k) (K1 : Keeps (fun k => ¬ F k) wr w1) (k1 : Old w1 w2)
    (hR2 : RNet G' w3 gm lm M' r') (hG' : ∀ k, G' k → Gm k ∨ w2.heap.size ≤ k) (K2 : Keeps (fun k => ¬ Gm k) w2 w3) (hqr : q'.map (·.1) = r'.map (·.1)) (k3 : Old w3 w4)
    (hB : Bk (fun i => (((i < w.heap.size ∨ (b0 ≤ i ∧ i < b1)) ∨ H i) ∨ (wr.heap.size ≤ i ∧ i < w4.heap.size)) ∧ v1.ownBlock ≠ some i) pb N' Z' w7)
    (k7 : Keeps (fun i => (((i < w.heap.size ∨ (b0 ≤ i ∧ i < b1)) ∨ H i) ∨ (wr.heap.size ≤ i ∧ i < w4.heap.size)) ∧ v1.ownBlock ≠ some i) w4 w7) :
    ∃ H', MidH w gn gm lm pb N' Z' b0 b1 H' wB w7 := by
  have z1 := K1.size
  have z2 := k1.size
  have z3 := K2.size
  have z4 := k3.size
  have z7 := k7.size
  have KH : Keeps (fun k => ¬ H k) wr w4 := (((K1.mono fun k _ hh hf => hh (hFH k hf)).trans' (k1.old _)).trans' (K2.mono fun k _ hh hf => hh (hGmH k hf))).trans' (k3.old _)
  have hFlt := hN.lt
  have hv1 : ∀ i, v1.ownBlock = some i → F i := fun i hi => hG1 i (ho1.foot i hi)
  have hv1H : ∀ i, v1.ownBlock = some i → H i := fun i hi => hFH i (hv1 i hi)
  have cF : ∀ i, F' i → H i ∧ v1.ownBlock ≠ some i := fun i hi => ⟨hFH i (hF' i hi), fun e => hFG1 i hi (ho1.foot i e)⟩
  have cG : ∀ i, G' i → (H i ∨ (wr.heap.size ≤ i ∧ i < w4.heap.size)) ∧ v1.ownBlock ≠ some i := fun i hi => by
    have hlt := hR2.lt i hi
    rcases hG' i hi with h' | h'
    · exact ⟨.inl (hGmH i h'), fun e => hFG i (hv1 i e) h'⟩
    · exact ⟨.inr ⟨by omega, by omega⟩, fun e => by have := hFlt i (hv1 i e); omega⟩
  refine ⟨fun i => F' i ∨ G' i, ⟨F', G', L', M', q', r', (((hN1.keep (k1.old _)).keep (K2.mono fun k _ hf => hFG k (hF' k hf))).keep (k3.old _)).keep (k7.mono fun i _ hi => ⟨.inl (.inr (cF i hi).1), (cF i hi).2⟩), (hR2.keep (k3.old _)).keep (k7.mono fun i _ hi => ⟨?_, (cG i hi).2⟩), hqr, fun k hf hg => ?_, fun k h => .inl h, fun k h => .inr h, fun k hk => ?_⟩, fun i hi => ?_, hB.less fun i hi => ?_, (h.k.trans KH fun i _ hi hh => ?_).trans k7 fun i _ hi => ⟨.inl (.inl hi), fun e => ?_⟩⟩
  · rcases (cG i hi).1 with h' | h'
    · exact .inl (.inr h')
    · exact .inr h'
  · rcases hG' k hg with h' | h'
    · exact hFG k (hF' k hf) h'
    · have := hFlt k (hF' k hf); omega
  · rcases hk with hk | hk
    · have := hFlt k (hF' k hk); omega
    · have := hR2.lt k hk; omega
  · rcases hi with hi | hi
    · exact h.hn i (cF i hi).1
    · rcases (cG i hi).1 with h' | h'
      · exact h.hn i h'
      · exact ⟨by omega, by omega⟩
  · rcases hi with hi | hi | hi
    · refine ⟨.inl (.inl hi), fun e => ?_⟩
      have hh := h.hn i (hv1H i e)
      rcases hi with hi | hi
      · omega
      · exact hh.2 hi
    · exact ⟨.inl (.inr (cF i hi).1), (cF i hi).2⟩
    · refine ⟨?_, (cG i hi).2⟩
      rcases (cG i hi).1 with h' | h'
      · exact .inl (.inr h')
      · exact .inr h'
  · rcases hi with hi | hi
    · have := (h.hn i hh).1; omega
    · exact (h.hn i hh).2 hi
  · have hh := h.hn i (hv1H i e)
    rcases hi with hi | hi
    · omega
    · exact hh.2 hi
end

/-- ahead of a round of the fourth loop -/
def InF4 (w : World) (pb N Z b0 b1 : Nat) (H : Nat → Prop) (q : List (List UInt8 × Nat)) (k : Nat) (wl wr : World) : Prop :=
  Bk (fun i => (i < w.heap.size ∨ ((b0 ≤ i ∧ i < b1) ∧ ∀ y ∈ q.take k, y.2 ≠ i)) ∨ H i) pb (N + 4 * k) (Z + k * 1048976) wr ∧
    Keeps (fun i => (i < w.heap.size ∨ ((b0 ≤ i ∧ i < b1) ∧ ∀ y ∈ q.take k, y.2 ≠ i)) ∨ H i) wl wr

section
variable {w wr w' wB wl w5 : World} {gn gm lm pb N Z N' Z' b0 b1 k : Nat} {H : Nat → Prop} {q : List (List UInt8 × Nat)}
theorem MidH.four (h : MidH w gn gm lm pb N Z b0 b1 H wB wr) : InF4 w pb N Z b0 b1 H q 0 wr wr := by
  refine ⟨(h.b.less fun i hi => ?_).more (by omega) (by omega), Keeps.refl _ _⟩
  rcases hi with (hi | hi) | hi
  · exact .inl (.inl hi)
  · exact .inl (.inr hi.1)
  · exact .inr hi
/-- One list of bytes is kept. -/
theorem InF4.step {n c g : Nat} {w6 : World} (h : InF4 w pb N Z b0 b1 H q k wl wr) (hk : k < q.length) (hg : g = q[k].2) (hn : n ≤ 1048576)
    (hB6 : Bk (fun i => ((i < w.heap.size ∨ ((b0 ≤ i ∧ i < b1) ∧ ∀ y ∈ q.take k, y.2 ≠ i)) ∨ H i) ∧ (Value.slice (some ⟨g, 0, none⟩) n c).ownBlock ≠ some i) pb (N + 4 * k + 4) (Z + k * 1048976 + n + 400) w6)
    (k5 : Old wr w5) (k6 : Keeps (fun i => ((i < w.heap.size ∨ ((b0 ≤ i ∧ i < b1) ∧ ∀ y ∈ q.take k, y.2 ≠ i)) ∨ H i) ∧ (Value.slice (some ⟨g, 0, none⟩) n c).ownBlock ≠ some i) w5 w6)
    (hH : ¬ H g ∧ w.heap.size ≤ g) : InF4 w pb N Z b0 b1 H q (k + 1) wl w6 := by
  obtain ⟨_, hkk⟩ := h
  have hmem : q[k] ∈ q.take (k + 1) := by
    rw [List.take_succ_eq_append_getElem hk]
    exact List.mem_append_right _ (List.mem_singleton.2 rfl)
  have hsub : ∀ i, ((i < w.heap.size ∨ ((b0 ≤ i ∧ i < b1) ∧ ∀ y ∈ q.take (k + 1), y.2 ≠ i)) ∨ H i) → ((i < w.heap.size ∨ ((b0 ≤ i ∧ i < b1) ∧ ∀ y ∈ q.take k, y.2 ≠ i)) ∨ H i) ∧ (Value.slice (some ⟨g, 0, none⟩) n c).ownBlock ≠ some i := fun i hi => by
    have hb : (Value.slice (some ⟨g, 0, none⟩) n c).ownBlock = some i → g = i := fun e => by
      have e' : some g = some i := e
      exact Option.some.inj e'
    rcases hi with (hi | hi) | hi
    · exact ⟨.inl (.inl hi), fun e => by have := hb e; omega⟩
    · exact ⟨.inl (.inr ⟨hi.1, fun y hy => hi.2 y (List.take_subset_take_left q (by omega) hy)⟩), fun e => hi.2 _ hmem (by rw [← hg]; exact hb e)⟩
    · exact ⟨.inr hi, fun e => hH.1 (by rw [hb e]; exact hi)⟩
  exact ⟨(hB6.less hsub).more (by omega) (by rw [Nat.add_mul]; omega), ((hkk.mono fun i _ hi => (hsub i hi).1).trans' (k5.old _)).trans' (k6.mono fun i _ hi => hsub i hi)⟩
/-- All are kept. -/
theorem InF4.done (h : InF4 w pb N Z b0 b1 H q k wl wr) (hm : MidH w gn gm lm pb N Z b0 b1 H wB wl) (hO : Old w wB) (hk : k ≤ 1048576) : FrH w gn gm lm pb (N + 4194304) (Z + 1099931058176) H wr := by
  obtain ⟨hb, hkk⟩ := h
  have hsz : k * 1048976 ≤ 1048576 * 1048976 := Nat.mul_le_mul_right _ hk
  refine ⟨hm.t.keep (hkk.mono fun i _ hi => .inr hi), fun i hi => (hm.hn i hi).1, (hb.less fun i hi => ?_).more (by omega) (by omega), (hO.trans hm.k fun i hi _ => .inl hi).trans hkk fun i hi _ => .inl (.inl hi)⟩
  rcases hi with hi | hi
  · exact .inl (.inl hi)
  · exact .inr hi
/-- Behind a List that is kept. -/
theorem FrH.list1 (h : FrH w gn gm lm pb N Z H wr) (k1 : Old wr w') : Bk (fun i => (i < w.heap.size ∨ H i) ∨ (wr.heap.size ≤ i ∧ i < w'.heap.size)) pb N Z w' := h.b.keep (k1.old _)
theorem FrH.list2 {w7 : World} (h : FrH w gn gm lm pb N Z H wr) (k1 : Old wr w') (hB : Bk (fun i => ((i < w.heap.size ∨ H i) ∨ (wr.heap.size ≤ i ∧ i < w'.heap.size)) ∧ ¬ (wr.heap.size ≤ i ∧ i < w'.heap.size)) pb N' Z' w7)
    (k7 : Keeps (fun i => ((i < w.heap.size ∨ H i) ∨ (wr.heap.size ≤ i ∧ i < w'.heap.size)) ∧ ¬ (wr.heap.size ≤ i ∧ i < w'.heap.size)) w' w7) : FrH w gn gm lm pb N' Z' H w7 := by
  have z0 := h.old.size
  have hc : ∀ i, (i < w.heap.size ∨ H i) → ((i < w.heap.size ∨ H i) ∨ (wr.heap.size ≤ i ∧ i < w'.heap.size)) ∧ ¬ (wr.heap.size ≤ i ∧ i < w'.heap.size) := fun i hi => ⟨.inl hi, fun hh => by
    rcases hi with hi | hi
    · omega
    · have := h.t.lt i hi; omega⟩
  exact ⟨(h.t.keep (k1.old _)).keep (k7.mono fun i _ hi => hc i (.inr hi)), h.hn, hB.less hc, (h.old.trans' k1).trans k7 fun i hi _ => hc i (.inl hi)⟩
end
end Go.Proofs.Ytgnndggbjipioaa
