/- A region that draws its order, walked by a tree of one's own: where two operations that change the world come up together, each may come first, and what follows it may differ. Plain laws over regions. -/
import Derived.Test.YtgnndggbjipioaaAPlan3
namespace Go.Proofs.Ytgnndggbjipioaa
open Go.RowKit
section
variable {P : Program} {ops : Array Oper} {Q : Exit → Act → World → Prop} {md : Region.Mode} {S : World → Prop} {n : Nat}

/-- The tree: the tail; an operation that is taken first; a loud one alone; two loud ones, each first. -/
inductive PT where
  | tail
  | take (i : Nat) (p : PT)
  | one (i : Nat) (p : PT)
  | two (i j : Nat) (p q : PT)

def wpPT (P : Program) (ops : Array Oper) (Q : Exit → Act → World → Prop) (S : World → Prop) (n : Nat) : PT → Act → World → Prop
  | .tail, a, w => wpList P ops Q (ops.toList.drop n) a w
  | .take i p, a, w => ∃ o v, nthOp ops.toList i = some o ∧ YieldsIf P ops S o v a ∧ wpPT P ops Q S n p (a.put o.dst v) w
  | .one i p, a, w => ∃ o, nthOp ops.toList i = some o ∧ loudly P ops Q S o (wpPT P ops Q S n p) a w
  | .two i j p q, a, w => ∃ o o', nthOp ops.toList i = some o ∧ nthOp ops.toList j = some o' ∧ loudly P ops Q S o (wpPT P ops Q S n p) a w ∧ loudly P ops Q S o' (wpPT P ops Q S n q) a w

def countPT : PT → Nat
  | .tail => 0
  | .take _ p => countPT p + 1
  | .one _ p => countPT p + 1
  | .two _ _ p _ => countPT p + 1

def fromPT (md : Region.Mode) (ops : Array Oper) (n : Nat) : PT → Array Bool → Bool
  | .tail, listed => Region.seqB md ops (ops.size - n) n listed
  | .take i p, listed => decide (i < n) && (Region.ready md ops listed).contains i && Region.free md ops listed i && fromPT md ops n p (listed.setIfInBounds i true)
  | .one i p, listed => decide (i < n) && decide (Region.ready md ops listed = [i]) && fromPT md ops n p (listed.setIfInBounds i true)
  | .two i j p q, listed => decide (i < n) && decide (j < n) && decide (Region.ready md ops listed = [i, j]) && decide (countPT p = countPT q) && fromPT md ops n p (listed.setIfInBounds i true) && fromPT md ops n q (listed.setIfInBounds j true)

def treeB (md : Region.Mode) (ops : Array Oper) (n : Nat) (p : PT) : Bool :=
  Region.noSelect ops && tailB md ops n && decide (n ≤ ops.size) && decide (countPT p = n) && fromPT md ops n p (Array.replicate ops.size false)

theorem pt_sound (hsel : Region.noSelect ops = true) (htl : tailB md ops n = true) (hQ : ∀ c a a' w, Q (.panic c) a w → Q (.panic c) a' w) : ∀ (p : PT) (listed : Array Bool) (a : Act) (w : World),
    fromPT md ops n p listed = true → S w → wpPT P ops Q S n p a w → wpAnyN P md ops Q S n (countPT p + (ops.size - n)) listed a w
  | .tail, listed, a, w, hB, _, h => by
    have e : (ops.toList.drop n).length = ops.size - n := by simp
    have := wpAnyN_of_seq (S := S) (ops.toList.drop n) n listed a w (Nat.le_refl _) (fun j => by simp) (by rw [e]; exact hB) h
    rw [e] at this
    simpa [countPT] using this
  | .take i p, listed, a, w, hB, hS, h => by
    simp only [fromPT, Bool.and_eq_true, decide_eq_true_eq] at hB
    obtain ⟨⟨⟨hin, hr⟩, hf⟩, hB⟩ := hB
    obtain ⟨o, v, h0, hy, h⟩ := h
    replace h0 := nthOp_at h0
    have hl : countPT (.take i p) + (ops.size - n) = countPT p + (ops.size - n) + 1 := by simp only [countPT]; omega
    rw [hl]
    refine wpAnyN_first h0 (Region.noSelect_spec hsel) (fun c a w h => hQ c _ _ w h) hin (fun j oj hj hnj => tail_of htl hj hnj hin) _ listed a w (Region.free_spec h0 hf) (by simpa using hr) hy hS ?_
    exact pt_sound hsel htl hQ p _ _ w hB hS h
  | .one i p, listed, a, w, hB, hS, h => by
    simp only [fromPT, Bool.and_eq_true, decide_eq_true_eq] at hB
    obtain ⟨⟨hin, hr⟩, hB⟩ := hB
    obtain ⟨o, h0, hA⟩ := h
    replace h0 := nthOp_at h0
    have hl : countPT (.one i p) + (ops.size - n) = countPT p + (ops.size - n) + 1 := by simp only [countPT]; omega
    rw [hl]
    refine ⟨fun e => (by rw [hr] at e; cases e), fun k hk => ?_⟩
    rw [hr] at hk
    have hk' : k = i := by simpa using hk
    subst hk'
    exact wpOp_mono (fun a' w' h' => ⟨fun _ => h'.1, pt_sound hsel htl hQ p _ a' w' hB h'.1 h'.2⟩) (loudly_op h0 hA)
  | .two i j p q, listed, a, w, hB, hS, h => by
    simp only [fromPT, Bool.and_eq_true, decide_eq_true_eq] at hB
    obtain ⟨⟨⟨⟨⟨hin, hjn⟩, hr⟩, hc⟩, hBi⟩, hBj⟩ := hB
    obtain ⟨o, o', h0, h1, hA, hA'⟩ := h
    replace h0 := nthOp_at h0
    replace h1 := nthOp_at h1
    have hl : countPT (.two i j p q) + (ops.size - n) = countPT p + (ops.size - n) + 1 := by simp only [countPT]; omega
    rw [hl]
    refine ⟨fun e => (by rw [hr] at e; cases e), fun k hk => ?_⟩
    rw [hr] at hk
    have hk' : k = i ∨ k = j := by simpa using hk
    rcases hk' with rfl | rfl
    · exact wpOp_mono (fun a' w' h' => ⟨fun _ => h'.1, pt_sound hsel htl hQ p _ a' w' hBi h'.1 h'.2⟩) (loudly_op h0 hA)
    · refine wpOp_mono (fun a' w' h' => ⟨fun _ => h'.1, ?_⟩) (loudly_op h1 hA')
      rw [hc]
      exact pt_sound hsel htl hQ q _ a' w' hBj h'.1 h'.2

/-- THE BEGINNING. -/
theorem wp_region_tree {id : Nat} {a : Act} {w : World} {l : List Oper} (S : World → Prop) (n : Nat) (p : PT) (hm : P.follows .mixedOrders = true) (hB : treeB .any l.toArray n p = true) (hS : S w.drew)
    (h : wpPT P l.toArray (NoPanic Q) S n p a w.drew) : (Code.region id l.toArray true).wp P Q a w := by
  refine wp_region_noPanic (wp_region_any hm ?_)
  simp only [treeB, Bool.and_eq_true, decide_eq_true_eq] at hB
  obtain ⟨⟨⟨⟨hsel, htl⟩, hns⟩, hfs⟩, hp⟩ := hB
  have := pt_sound (P := P) (Q := NoPanic Q) (S := S) hsel htl (fun c a a' w h => (h : False).elim) p _ a w.drew hp hS h
  have e : countPT p + (l.toArray.size - n) = l.length := by simp at hns ⊢; omega
  rw [e] at this
  exact wpAny_of_N (S := S) (n := n) l.length _ _ _ this

theorem pt_take {i : Nat} {p : PT} {o : Oper} {a : Act} {w : World} {v : Value} (h0 : nthOp ops.toList i = some o) (hw : Region.wanted o (yielded ops a.tmps) = true)
    (hy : ∀ w', S w' → (execOp a.eval o).run P w' = .ok (.value v) w') (h : wpPT P ops Q S n p (a.put o.dst v) w) : wpPT P ops Q S n (.take i p) a w :=
  ⟨o, v, h0, .inl ⟨hw, hy⟩, h⟩
theorem pt_one {i : Nat} {p : PT} {o : Oper} {a : Act} {w : World} (h0 : nthOp ops.toList i = some o) (h : loudly P ops Q S o (wpPT P ops Q S n p) a w) : wpPT P ops Q S n (.one i p) a w := ⟨o, h0, h⟩
theorem pt_two {i j : Nat} {p q : PT} {o o' : Oper} {a : Act} {w : World} (h0 : nthOp ops.toList i = some o) (h1 : nthOp ops.toList j = some o')
    (h : loudly P ops Q S o (wpPT P ops Q S n p) a w) (h' : loudly P ops Q S o' (wpPT P ops Q S n q) a w) : wpPT P ops Q S n (.two i j p q) a w := ⟨o, o', h0, h1, h, h'⟩
theorem pt_tail {a : Act} {w : World} {l : List Oper} (h0 : ops.toList.drop n = l) (h : wpList P ops Q l a w) : wpPT P ops Q S n .tail a w := by
  subst h0
  exact h
end
end Go.Proofs.Ytgnndggbjipioaa
