/- weftlaw12.untouched: the disks and the lists of records that it holds, in memory. Plain theorems; no conditions beyond those written. -/
import Derived.Test.YtdpaaoeipconcaaDoorJHand18
namespace Go.Proofs.YtdpaaoeipconcaaDoor
open Go.RowKit

/-- Disks' halves (vA: qa, in blocks FA) and lists of records (vR: es, each in blocks of its own), all from b0 on. -/
structure UnM (b0 : Nat) (FA : Nat → Prop) (wr : World) (vA vR : Value) (qa : List (List UInt8 × Value)) (es : List (Value × List (List UInt8 × Value) × (Nat → Prop))) : Prop where
  all : OwnR FA wr vA qa
  row : wr.ownsRow 0 35 1 vR es.length (es.map (·.1))
  each : ∀ e ∈ es, OwnR e.2.2 wr e.1 e.2.1 ∧ e.2.1.length ≤ 100000 ∧ (∀ x ∈ e.2.1, x.1.length ≤ 65536) ∧ ∀ k, e.2.2 k → b0 ≤ k ∧ k < wr.heap.size ∧ ¬ FA k ∧ vR.ownBlock ≠ some k
  fa : ∀ k, FA k → b0 ≤ k ∧ k < wr.heap.size ∧ vR.ownBlock ≠ some k
  fr : ∀ k, vR.ownBlock = some k → b0 ≤ k
  lens : ∀ x ∈ qa, x.1.length ≤ 1048576
  dis : es.Pairwise fun a b => ∀ k, a.2.2 k → ¬ b.2.2 k

section
variable {b0 : Nat} {FA : Nat → Prop} {wr w' w1 W2 w3 W4 w5 : World} {vA vR : Value} {qa : List (List UInt8 × Value)} {es : List (Value × List (List UInt8 × Value) × (Nat → Prop))}
theorem UnM.keep (h : UnM b0 FA wr vA vR qa es) (hk : Keeps (fun k => FA k ∨ vR.ownBlock = some k ∨ ∃ e ∈ es, e.2.2 k) wr w') : UnM b0 FA w' vA vR qa es :=
  ⟨h.all.keep (hk.mono fun k _ hs => .inl hs), own_keeps h.row hk (fun k hs => .inr (.inl hs)), fun e he => by
    obtain ⟨a, b, c, d⟩ := h.each e he
    exact ⟨a.keep (hk.mono fun k _ hs => .inr (.inr ⟨e, he, hs⟩)), b, c, fun k hk' => by obtain ⟨d1, d2, d3, d4⟩ := d k hk'; have := hk.size; exact ⟨d1, by omega, d3, d4⟩⟩, fun k hk' => by obtain ⟨d1, d2, d3⟩ := h.fa k hk'; have := hk.size; exact ⟨d1, by omega, d3⟩, h.fr, h.lens, h.dis⟩
theorem UnM.nil (b0 : Nat) (w : World) : UnM b0 (fun _ => False) w (.slice none 0 0) (.slice none 0 0) [] [] :=
  ⟨OwnR.nil _ _, World.ownsRow_nil _ _ _ _, by simp, fun _ h => h.elim, by simp [Value.ownBlock], by simp, List.Pairwise.nil⟩

/-- A disk and a list of records more. -/
theorem UnM.step (h : UnM b0 FA wr vA vR qa es) (hb : b0 ≤ wr.heap.size) (k1 : Old wr w1) {xs ys : List UInt8} {v1 v2 : Value} (hA : OwnB (fun k => wr.heap.size ≤ k) w1 v1 xs) (hB : OwnB (fun k => wr.heap.size ≤ k) w1 v2 ys) (hAB : ∀ k, v1.ownBlock = some k → v2.ownBlock ≠ some k) (hlx : xs.length ≤ 1048576) (hly : ys.length ≤ 1048576)
    {L : Value} {ql : List (List UInt8 × Value)} {F : Nat → Prop} (hL : OwnR F w1 L ql) (hF : ∀ k, F k → wr.heap.size ≤ k ∧ k < w1.heap.size ∧ v1.ownBlock ≠ some k ∧ v2.ownBlock ≠ some k) (hql : ql.length ≤ 100000) (hqs : ∀ x ∈ ql, x.1.length ≤ 65536) (k2 : Old w1 W2) {vA2 vR2 : Value}
    (ho3 : w3.ownsRow 0 22 1 vA2 (qa.length + 2) (qa.map (·.2) ++ [v1, v2])) (hg3 : W2.grownBy w3 vA.ownBlock) (hat3 : vA2.ownBlock = vA.ownBlock ∨ vA2.ownBlock = some W2.heap.size) (k4 : Old w3 W4)
    (ho5 : w5.ownsRow 0 35 1 vR2 (es.length + 1) (es.map (·.1) ++ [L])) (hg5 : W4.grownBy w5 vR.ownBlock) (hat5 : vR2.ownBlock = vR.ownBlock ∨ vR2.ownBlock = some W4.heap.size) :
    UnM b0 (fun k => FA k ∨ v1.ownBlock = some k ∨ v2.ownBlock = some k ∨ vA2.ownBlock = some k) w5 vA2 vR2 (qa ++ [(xs, v1), (ys, v2)]) (es ++ [(L, ql, F)]) ∧ Keeps (fun k => ¬ FA k ∧ vR.ownBlock ≠ some k) wr w5 ∧
      (∀ k, k < wr.heap.size → ¬ FA k → vR.ownBlock ≠ some k → (v1.ownBlock ≠ some k ∧ v2.ownBlock ≠ some k ∧ vA2.ownBlock ≠ some k) ∧ vR2.ownBlock ≠ some k ∧ ¬ F k) := by
  have KA : Keeps (fun k => vA.ownBlock ≠ some k) W2 w3 := (Keeps.refl _ W2).grown hg3 (fun i _ h hn => hn h)
  have KR : Keeps (fun k => vR.ownBlock ≠ some k) W4 w5 := (Keeps.refl _ W4).grown hg5 (fun i _ h hn => hn h)
  have z1 := k1.size
  have z2 := k2.size
  have z3 := KA.size
  have z4 := k4.size
  have z5 := KR.size
  have K15 : Keeps (fun k => vA.ownBlock ≠ some k ∧ vR.ownBlock ≠ some k) w1 w5 := (((k2.old _).trans' (KA.mono fun k _ h => h.1)).trans' (k4.old _)).trans' (KR.mono fun k _ h => h.2)
  have KB : Keeps (fun k => vA.ownBlock ≠ some k ∧ vR.ownBlock ≠ some k) wr w5 := (k1.old _).trans' K15
  have vAlt : ∀ k, vA.ownBlock = some k → k < wr.heap.size ∧ FA k := fun k hk => ⟨own_lt h.all.row hk, h.all.foot k hk⟩
  have vRlt : ∀ k, vR.ownBlock = some k → k < wr.heap.size := fun k hk => own_lt h.row hk
  have hrow4 := own_keeps (own_keeps (own_keeps (own_keeps h.row k1 (fun _ _ => trivial)) k2 (fun _ _ => trivial)) KA (fun k hk e => own_ne h.row h.all.row (by decide) hk e)) k4 (fun _ _ => trivial)
  have ho4 := own_keeps ho3 k4 (fun _ _ => trivial)
  have ho35 := own_keeps ho4 KR (fun k hk e => own_ne ho4 hrow4 (by decide) hk e)
  have v1lt : ∀ k, v1.ownBlock = some k → wr.heap.size ≤ k ∧ k < w1.heap.size := fun k hk => ⟨hA.foot k hk, own_lt hA.row hk⟩
  have v2lt : ∀ k, v2.ownBlock = some k → wr.heap.size ≤ k ∧ k < w1.heap.size := fun k hk => ⟨hB.foot k hk, own_lt hB.row hk⟩
  have vA2c : ∀ k, vA2.ownBlock = some k → (k < wr.heap.size ∧ FA k ∧ vA.ownBlock = some k) ∨ k = W2.heap.size := fun k hk => by
    rcases hat3 with e | e
    · rw [e] at hk; exact .inl ⟨(vAlt k hk).1, (vAlt k hk).2, hk⟩
    · rw [e] at hk; injection hk with hk; exact .inr hk.symm
  have vR2c : ∀ k, vR2.ownBlock = some k → (k < wr.heap.size ∧ vR.ownBlock = some k) ∨ k = W4.heap.size := fun k hk => by
    rcases hat5 with e | e
    · rw [e] at hk; exact .inl ⟨vRlt k hk, hk⟩
    · rw [e] at hk; injection hk with hk; exact .inr hk.symm
  refine ⟨⟨⟨by rw [List.map_append, List.length_append]; exact ho35, fun y hy => ?_, fun k hk => .inr (.inr (.inr hk)), ?_⟩, by rw [List.map_append, List.length_append]; exact ho5, fun e he => ?_, fun k hk => ?_, fun k hk => ?_, fun x hx => ?_, ?_⟩, KB.mono fun k _ hk => ⟨fun e => hk.1 (vAlt k e).2, hk.2⟩, fun k hk hfa hvr => ⟨⟨fun e => ?_, fun e => ?_, fun e => ?_⟩, fun e => ?_, fun e => ?_⟩⟩
  · rcases List.mem_append.1 hy with hy | hy
    · have ho := h.all.own y hy
      exact ⟨own_keeps ho.row KB (fun k hk => ⟨fun e => own_ne ho.row h.all.row (by decide) hk e, fun e => own_ne ho.row h.row (by decide) hk e⟩), fun k hk => .inl (ho.foot k hk), ho.len⟩
    · have hy' : y = (xs, v1) ∨ y = (ys, v2) := by simpa using hy
      rcases hy' with rfl | rfl
      · exact ⟨own_keeps hA.row K15 (fun k hk => ⟨fun e => by have := v1lt k hk; have := vAlt k e; omega, fun e => by have := v1lt k hk; have := vRlt k e; omega⟩), fun k hk => .inr (.inl hk), hA.len⟩
      · exact ⟨own_keeps hB.row K15 (fun k hk => ⟨fun e => by have := v2lt k hk; have := vAlt k e; omega, fun e => by have := v2lt k hk; have := vRlt k e; omega⟩), fun k hk => .inr (.inr (.inl hk)), hB.len⟩
  · refine List.pairwise_append.2 ⟨h.all.dis, ?_, fun x hx y hy k hk e => ?_⟩
    · refine List.pairwise_cons.2 ⟨fun y hy => ?_, List.pairwise_singleton _ _⟩
      obtain rfl : y = (ys, v2) := by simpa using hy
      exact hAB
    · have hx' := own_lt (h.all.own x hx).row hk
      have hy' : y = (xs, v1) ∨ y = (ys, v2) := by simpa using hy
      rcases hy' with rfl | rfl
      · have := v1lt k e; omega
      · have := v2lt k e; omega
  · rcases List.mem_append.1 he with he | he
    · obtain ⟨a, b, c, d⟩ := h.each e he
      refine ⟨a.keep (KB.mono fun k _ hk => ⟨fun e' => (d k hk).2.2.1 (vAlt k e').2, (d k hk).2.2.2⟩), b, c, fun k hk => ?_⟩
      obtain ⟨d1, d2, d3, d4⟩ := d k hk
      refine ⟨d1, by omega, fun hf => ?_, fun e' => ?_⟩
      · rcases hf with hf | hf | hf | hf
        · exact d3 hf
        · have := v1lt k hf; omega
        · have := v2lt k hf; omega
        · rcases vA2c k hf with h' | h'
          · exact d3 h'.2.1
          · omega
      · rcases vR2c k e' with h' | h'
        · exact d4 h'.2
        · omega
    · obtain rfl : e = (L, ql, F) := by simpa using he
      refine ⟨hL.keep (K15.mono fun k _ hk => ⟨fun e => by have := hF k hk; have := vAlt k e; omega, fun e => by have := hF k hk; have := vRlt k e; omega⟩), hql, hqs, fun k hk => ?_⟩
      obtain ⟨f1, f2, f3, f4⟩ := hF k hk
      refine ⟨by omega, by omega, fun hf => ?_, fun e' => ?_⟩
      · rcases hf with hf | hf | hf | hf
        · have := h.fa k hf; omega
        · exact f3 hf
        · exact f4 hf
        · rcases vA2c k hf with h' | h'
          · omega
          · omega
      · rcases vR2c k e' with h' | h'
        · omega
        · omega
  · have hne : vA2.ownBlock = some k → vR2.ownBlock ≠ some k := fun hk => own_ne ho35 ho5 (by decide) hk
    rcases hk with hk | hk | hk | hk
    · obtain ⟨f1, f2, f3⟩ := h.fa k hk
      refine ⟨f1, by omega, fun e' => ?_⟩
      rcases vR2c k e' with h' | h'
      · exact f3 h'.2
      · omega
    · have hv := v1lt k hk
      refine ⟨by omega, by omega, fun e' => ?_⟩
      rcases vR2c k e' with h' | h' <;> omega
    · have hv := v2lt k hk
      refine ⟨by omega, by omega, fun e' => ?_⟩
      rcases vR2c k e' with h' | h' <;> omega
    · refine ⟨?_, own_lt ho35 hk, hne hk⟩
      rcases vA2c k hk with h' | h'
      · exact (h.fa k h'.2.1).1
      · omega
  · rcases vR2c k hk with h' | h'
    · exact h.fr k h'.2
    · omega
  · rcases List.mem_append.1 hx with hx | hx
    · exact h.lens x hx
    · have hx' : x = (xs, v1) ∨ x = (ys, v2) := by simpa using hx
      rcases hx' with rfl | rfl
      · exact hlx
      · exact hly
  · refine List.pairwise_append.2 ⟨h.dis, List.pairwise_singleton _ _, fun a ha b hb' k hk hk' => ?_⟩
    obtain rfl : b = (L, ql, F) := by simpa using hb'
    have := (h.each a ha).2.2.2 k hk
    have := hF k hk'
    omega
  · have := v1lt k e; omega
  · have := v2lt k e; omega
  · rcases vA2c k e with h' | h'
    · exact hfa h'.2.1
    · omega
  · rcases vR2c k e with h' | h'
    · exact hvr h'.2
    · omega
  · have := hF k e; omega
end

/-- ahead of a round of the first loops; G: blocks beside -/
def InUn (G : Nat → Prop) (w : World) (p n m : Nat) (vA vR : Value) (wr : World) : Prop :=
  ∃ (H FA : Nat → Prop) (o : Option Jn) (qa : List (List UInt8 × Value)) (es : List (Value × List (List UInt8 × Value) × (Nat → Prop))), PairAt H wr p o ∧ wsN o ≤ n ∧ UnM w.heap.size FA wr vA vR qa es ∧ qa.length ≤ 2 * m ∧ es.length ≤ m ∧ Old w wr ∧
    ∀ k, H k ∨ G k → w.heap.size ≤ k ∧ k < wr.heap.size ∧ ¬ FA k ∧ vR.ownBlock ≠ some k ∧ ∀ e ∈ es, ¬ e.2.2 k

/-- What Open left of records, in a slot. -/
def OpenAt (w : World) (v : Value) (wx : World) : Prop := ∃ A c ql F, v = .slice A ql.length c ∧ OwnR F wx (.slice A ql.length c) ql ∧ (∀ k, F k → w.heap.size ≤ k ∧ k < wx.heap.size) ∧ ql.length ≤ 100000 ∧ (∀ x ∈ ql, x.1.length ≤ 65536) ∧ Old w wx

theorem InUn.more {G G' : Nat → Prop} {w wr w' : World} {p n m n' m' : Nat} {vA vR : Value} (h : InUn G w p n m vA vR wr) (hk : Old wr w') (hn : n ≤ n') (hm : m ≤ m') (hG : ∀ k, G' k → G k ∨ (wr.heap.size ≤ k ∧ k < w'.heap.size)) : InUn G' w p n' m' vA vR w' := by
  obtain ⟨H, FA, o, qa, es, hP, hw, hU, hl, hl2, hO, hX⟩ := h
  have hz := hk.size
  have hz0 := hO.size
  refine ⟨H, FA, o, qa, es, hP.keep (hk.old _), by omega, hU.keep (hk.old _), by omega, by omega, hO.trans' hk, fun k hk' => ?_⟩
  rcases (show (H k ∨ G k) ∨ (wr.heap.size ≤ k ∧ k < w'.heap.size) by
    rcases hk' with h | h
    · exact .inl (.inl h)
    · rcases hG k h with h | h
      · exact .inl (.inr h)
      · exact .inr h) with h | h
  · obtain ⟨a, b, c⟩ := hX k h
    exact ⟨a, by omega, c⟩
  · refine ⟨by omega, h.2, fun hf => by have := hU.fa k hf; omega, fun e => by have := own_lt hU.row e; omega, fun e he hf => ?_⟩
    have := (hU.each e he).2.2.2 k hf
    omega
end Go.Proofs.YtdpaaoeipconcaaDoor
