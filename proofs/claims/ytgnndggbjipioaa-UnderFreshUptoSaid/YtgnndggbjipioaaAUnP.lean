/- weftlaw18.untouched: the bytes that Take gave and the lists that List gave, in memory. Plain theorems; no conditions beyond those written. -/
import Derived.Test.YtgnndggbjipioaaABk
import Derived.Test.YtgnndggbjipioaaATree
namespace Go.Proofs.Ytgnndggbjipioaa
open Go.RowKit

/-- Bytes (vB: qb, in blocks FB) and lists of packets (vA: es, each in blocks of its own), all from b0 on. -/
structure UnL (b0 : Nat) (FB : Nat → Prop) (wr : World) (vA vB : Value) (qb : List (List UInt8 × Value)) (es : List (Value × List (Pk × Value) × (Nat → Prop))) : Prop where
  rowB : wr.ownsRow 0 46 1 vB qb.length (qb.map (·.2))
  ownB : ∀ x ∈ qb, OwnB FB wr x.2 x.1
  footB : ∀ k, vB.ownBlock = some k → FB k
  disB : qb.Pairwise fun x y => ∀ k, x.2.ownBlock = some k → y.2.ownBlock ≠ some k
  rowA : wr.ownsRow 0 34 1 vA es.length (es.map (·.1))
  each : ∀ e ∈ es, Flight e.2.2 wr e.1 e.2.1 ∧ e.2.1.length ≤ 4096 ∧ (∀ x ∈ e.2.1, x.1.2.length ≤ 65535) ∧ ∀ k, e.2.2 k → b0 ≤ k ∧ k < wr.heap.size ∧ ¬ FB k ∧ vA.ownBlock ≠ some k
  fb : ∀ k, FB k → b0 ≤ k ∧ k < wr.heap.size ∧ vA.ownBlock ≠ some k
  fa : ∀ k, vA.ownBlock = some k → b0 ≤ k
  lens : ∀ x ∈ qb, x.1.length ≤ 65535
  dis : es.Pairwise fun a b => ∀ k, a.2.2 k → ¬ b.2.2 k

section
variable {b0 : Nat} {FB G : Nat → Prop} {wr w' w1 W2 w3 : World} {vA vB : Value} {qb : List (List UInt8 × Value)} {es : List (Value × List (Pk × Value) × (Nat → Prop))}
theorem UnL.keep (h : UnL b0 FB wr vA vB qb es) (hk : Keeps (fun k => FB k ∨ vA.ownBlock = some k ∨ ∃ e ∈ es, e.2.2 k) wr w') : UnL b0 FB w' vA vB qb es := by
  have hz := hk.size
  exact ⟨own_keeps h.rowB hk fun k hk' => .inl (h.footB k hk'), fun x hx => (h.ownB x hx).keep (hk.mono fun k _ hs => .inl hs), h.footB, h.disB, own_keeps h.rowA hk fun k hs => .inr (.inl hs), fun e he => by
    obtain ⟨a, b, c, d⟩ := h.each e he
    exact ⟨a.keep (hk.mono fun k _ hs => .inr (.inr ⟨e, he, hs⟩)), b, c, fun k hk' => by obtain ⟨d1, d2, d3, d4⟩ := d k hk'; exact ⟨d1, by omega, d3, d4⟩⟩, fun k hk' => by obtain ⟨d1, d2, d3⟩ := h.fb k hk'; exact ⟨d1, by omega, d3⟩, h.fa, h.lens, h.dis⟩
theorem UnL.nil (b0 : Nat) (w : World) : UnL b0 (fun _ => False) w (.slice none 0 0) (.slice none 0 0) [] [] :=
  ⟨World.ownsRow_nil _ _ _ _, by simp, by simp [Value.ownBlock], List.Pairwise.nil, World.ownsRow_nil _ _ _ _, by simp, fun _ h => h.elim, by simp [Value.ownBlock], by simp, List.Pairwise.nil⟩

/-- Bytes more. -/
theorem UnL.pushB (h : UnL b0 FB wr vA vB qb es) (hb : b0 ≤ wr.heap.size) {v vB2 : Value} {bs : List UInt8} (hv : OwnB G wr v bs) (hl : bs.length ≤ 65535) (hvn : ∀ k, v.ownBlock = some k → b0 ≤ k ∧ ¬ FB k ∧ vA.ownBlock ≠ some k ∧ ∀ e ∈ es, ¬ e.2.2 k)
    (k2 : Old wr W2) (ho3 : w3.ownsRow 0 46 1 vB2 (qb.length + 1) (qb.map (·.2) ++ [v])) (hg3 : W2.grownBy w3 vB.ownBlock) (hat3 : vB2.ownBlock = vB.ownBlock ∨ vB2.ownBlock = some W2.heap.size) :
    UnL b0 (fun k => FB k ∨ v.ownBlock = some k ∨ vB2.ownBlock = some k) w3 vA vB2 (qb ++ [(bs, v)]) es ∧ Keeps (fun k => vB.ownBlock ≠ some k) wr w3 ∧ (∀ k, k < wr.heap.size → vB.ownBlock ≠ some k → vB2.ownBlock ≠ some k) := by
  have KB : Keeps (fun k => vB.ownBlock ≠ some k) W2 w3 := (Keeps.refl _ W2).grown hg3 (fun i _ h hn => hn h)
  have z2 := k2.size
  have z3 := KB.size
  have K : Keeps (fun k => vB.ownBlock ≠ some k) wr w3 := (k2.old _).trans' KB
  have hz := K.size
  have vB2c : ∀ k, vB2.ownBlock = some k → (vB.ownBlock = some k ∧ k < wr.heap.size) ∨ k = W2.heap.size := fun k hk => by
    rcases hat3 with e | e
    · rw [e] at hk; exact .inl ⟨hk, own_lt h.rowB hk⟩
    · rw [e] at hk; injection hk with hk; exact .inr hk.symm
  have hA3 := own_keeps h.rowA K (fun k hk e => own_ne h.rowA h.rowB (by decide) hk e)
  refine ⟨⟨by rw [List.map_append, List.length_append]; exact ho3, fun y hy => ?_, fun k hk => .inr (.inr hk), List.pairwise_append.2 ⟨h.disB, List.pairwise_singleton _ _, fun x hx y hy k hk e => ?_⟩, hA3, fun e he => ?_, fun k hk => ?_, h.fa, fun x hx => ?_, h.dis⟩, K, fun k hk hn e => ?_⟩
  · rcases List.mem_append.1 hy with hy | hy
    · have ho := h.ownB y hy
      exact ⟨own_keeps ho.row K (fun k hk e => own_ne ho.row h.rowB (by decide) hk e), fun k hk => .inl (ho.foot k hk), ho.len⟩
    · obtain rfl : y = (bs, v) := by simpa using hy
      exact ⟨own_keeps hv.row K (fun k hk e => own_ne hv.row h.rowB (by decide) hk e), fun k hk => .inr (.inl hk), hv.len⟩
  · obtain rfl : y = (bs, v) := by simpa using hy
    exact (hvn k e).2.1 ((h.ownB x hx).foot k hk)
  · obtain ⟨a, b, c, d⟩ := h.each e he
    refine ⟨a.keep (K.mono fun k _ hk e' => (d k hk).2.2.1 (h.footB k e')), b, c, fun k hk => ?_⟩
    obtain ⟨d1, d2, d3, d4⟩ := d k hk
    refine ⟨d1, by omega, fun hf => ?_, d4⟩
    rcases hf with hf | hf | hf
    · exact d3 hf
    · exact (hvn k hf).2.2.2 e he hk
    · rcases vB2c k hf with h' | h'
      · exact d3 (h.footB k h'.1)
      · omega
  · rcases hk with hk | hk | hk
    · obtain ⟨f1, f2, f3⟩ := h.fb k hk
      exact ⟨f1, by omega, f3⟩
    · obtain ⟨f1, _, f3, _⟩ := hvn k hk
      have := own_lt hv.row hk
      exact ⟨f1, by omega, f3⟩
    · refine ⟨?_, own_lt ho3 hk, fun e => own_ne ho3 hA3 (by decide) hk e⟩
      rcases vB2c k hk with h' | h'
      · exact (h.fb k (h.footB k h'.1)).1
      · omega
  · rcases List.mem_append.1 hx with hx | hx
    · exact h.lens x hx
    · obtain rfl : x = (bs, v) := by simpa using hx
      exact hl
  · rcases vB2c k e with h' | h'
    · exact hn h'.1
    · omega

/-- Two lists more. -/
theorem UnL.pushL (h : UnL b0 FB wr vA vB qb es) (hb : b0 ≤ wr.heap.size) (k1 : Old wr w1) {L1 L2 vA2 : Value} {q1 q2 : List (Pk × Value)} {F1 F2 : Nat → Prop} (hL1 : Flight F1 w1 L1 q1) (hL2 : Flight F2 w1 L2 q2) (hF1 : ∀ k, F1 k → wr.heap.size ≤ k ∧ k < w1.heap.size ∧ ¬ F2 k) (hF2 : ∀ k, F2 k → wr.heap.size ≤ k ∧ k < w1.heap.size)
    (hn1 : q1.length ≤ 4096) (hn2 : q2.length ≤ 4096) (hs1 : ∀ x ∈ q1, x.1.2.length ≤ 65535) (hs2 : ∀ x ∈ q2, x.1.2.length ≤ 65535) (k2 : Old w1 W2) (ho3 : w3.ownsRow 0 34 1 vA2 (es.length + 2) (es.map (·.1) ++ [L1, L2])) (hg3 : W2.grownBy w3 vA.ownBlock) (hat3 : vA2.ownBlock = vA.ownBlock ∨ vA2.ownBlock = some W2.heap.size) :
    UnL b0 FB w3 vA2 vB qb (es ++ [(L1, q1, F1), (L2, q2, F2)]) ∧ Keeps (fun k => vA.ownBlock ≠ some k) wr w3 ∧ (∀ k, k < wr.heap.size → vA.ownBlock ≠ some k → vA2.ownBlock ≠ some k) := by
  have KA : Keeps (fun k => vA.ownBlock ≠ some k) W2 w3 := (Keeps.refl _ W2).grown hg3 (fun i _ h hn => hn h)
  have z1 := k1.size
  have z2 := k2.size
  have z3 := KA.size
  have K1 : Keeps (fun k => vA.ownBlock ≠ some k) w1 w3 := (k2.old _).trans' KA
  have K : Keeps (fun k => vA.ownBlock ≠ some k) wr w3 := (k1.old _).trans' K1
  have vAlt : ∀ k, vA.ownBlock = some k → k < wr.heap.size := fun k hk => own_lt h.rowA hk
  have vA2c : ∀ k, vA2.ownBlock = some k → (vA.ownBlock = some k ∧ k < wr.heap.size) ∨ k = W2.heap.size := fun k hk => by
    rcases hat3 with e | e
    · rw [e] at hk; exact .inl ⟨hk, vAlt k hk⟩
    · rw [e] at hk; injection hk with hk; exact .inr hk.symm
  have hnew : ∀ {L : Value} {q : List (Pk × Value)} {F : Nat → Prop}, Flight F w1 L q → (∀ k, F k → wr.heap.size ≤ k ∧ k < w1.heap.size) → Flight F w3 L q ∧ ∀ k, F k → b0 ≤ k ∧ k < w3.heap.size ∧ ¬ FB k ∧ vA2.ownBlock ≠ some k := fun hL hF => ⟨hL.keep (K1.mono fun k _ hk e => by have := hF k hk; have := vAlt k e; omega), fun k hk => by
    obtain ⟨f1, f2⟩ := hF k hk
    refine ⟨by omega, by omega, fun hf => by have := h.fb k hf; omega, fun e => ?_⟩
    rcases vA2c k e with h' | h' <;> omega⟩
  have hB3 := own_keeps h.rowB K (fun k hk e => own_ne h.rowB h.rowA (by decide) hk e)
  refine ⟨⟨hB3, fun x hx => ⟨own_keeps (h.ownB x hx).row K (fun k hk e => own_ne (h.ownB x hx).row h.rowA (by decide) hk e), (h.ownB x hx).foot, (h.ownB x hx).len⟩, h.footB, h.disB, by rw [List.map_append, List.length_append]; exact ho3, fun e he => ?_, fun k hk => ?_, fun k hk => ?_, h.lens, ?_⟩, K, fun k hk hn e => ?_⟩
  · rcases List.mem_append.1 he with he | he
    · obtain ⟨a, b, c, d⟩ := h.each e he
      refine ⟨a.keep (K.mono fun k _ hk => (d k hk).2.2.2), b, c, fun k hk => ?_⟩
      obtain ⟨d1, d2, d3, d4⟩ := d k hk
      refine ⟨d1, by omega, d3, fun e' => ?_⟩
      rcases vA2c k e' with h' | h'
      · exact d4 h'.1
      · omega
    · have he' : e = (L1, q1, F1) ∨ e = (L2, q2, F2) := by simpa using he
      rcases he' with rfl | rfl
      · obtain ⟨a, b⟩ := hnew hL1 fun k hk => ⟨(hF1 k hk).1, (hF1 k hk).2.1⟩
        exact ⟨a, hn1, hs1, b⟩
      · obtain ⟨a, b⟩ := hnew hL2 hF2
        exact ⟨a, hn2, hs2, b⟩
  · obtain ⟨f1, f2, f3⟩ := h.fb k hk
    refine ⟨f1, by omega, fun e' => ?_⟩
    rcases vA2c k e' with h' | h'
    · exact f3 h'.1
    · omega
  · rcases vA2c k hk with h' | h'
    · exact h.fa k h'.1
    · omega
  · refine List.pairwise_append.2 ⟨h.dis, List.pairwise_cons.2 ⟨fun b hb' k hk hk' => ?_, List.pairwise_singleton _ _⟩, fun a ha b hb' k hk hk' => ?_⟩
    · obtain rfl : b = (L2, q2, F2) := by simpa using hb'
      exact (hF1 k hk).2.2 hk'
    · have h1 := (h.each a ha).2.2.2 k hk
      have hb2 : b = (L1, q1, F1) ∨ b = (L2, q2, F2) := by simpa using hb'
      rcases hb2 with rfl | rfl
      · have := hF1 k hk'; omega
      · have := hF2 k hk'; omega
  · rcases vA2c k e with h' | h'
    · exact hn h'.1
    · omega
end
end Go.Proofs.Ytgnndggbjipioaa
