/- A region that draws its order, walked in an order of one's own, where two operations that change the world may come up in either order: each of the two orders is walked. -/
import Derived.Test.YtgnndggbjipioaaAPlan2
namespace Go.Proofs.Ytgnndggbjipioaa
open Go.RowKit
section
variable {P : Program} {ops : Array Oper} {Q : Exit → Act → World → Prop} {md : Region.Mode} {S : World → Prop} {n : Nat}

/-- One loud operation, then K. -/
def loudly (P : Program) (ops : Array Oper) (Q : Exit → Act → World → Prop) (S : World → Prop) (o : Oper) (K : Act → World → Prop) (a : Act) (w : World) : Prop :=
  if Region.wanted o (yielded ops a.tmps) then o.wp P a w (fun a' w' => S w' ∧ K a' w') Q ∨ (o.asks P a w ∧ LetsOut Q) else S w ∧ K (a.put o.dst undef) w

/-- The plan: (i, none): operation i is taken first; (i, some j): i and j come up together, both loud; (i, some i): i comes up alone, loud; behind its end: the tail from n on. -/
def wpPlanF (P : Program) (ops : Array Oper) (Q : Exit → Act → World → Prop) (S : World → Prop) (n : Nat) : List (Nat × Option Nat) → Act → World → Prop
  | [], a, w => wpList P ops Q (ops.toList.drop n) a w
  | (i, none) :: fs, a, w => ∃ o v, nthOp ops.toList i = some o ∧ YieldsIf P ops S o v a ∧ wpPlanF P ops Q S n fs (a.put o.dst v) w
  | (i, some j) :: fs, a, w => ∃ o o', nthOp ops.toList i = some o ∧ nthOp ops.toList j = some o' ∧
      if i = j then loudly P ops Q S o (wpPlanF P ops Q S n fs) a w
      else loudly P ops Q S o (loudly P ops Q S o' (wpPlanF P ops Q S n fs)) a w ∧ loudly P ops Q S o' (loudly P ops Q S o (wpPlanF P ops Q S n fs)) a w

def countF : List (Nat × Option Nat) → Nat
  | [] => 0
  | (_, none) :: fs => countF fs + 1
  | (i, some j) :: fs => if i = j then countF fs + 1 else countF fs + 2

def planFromF (md : Region.Mode) (ops : Array Oper) (n : Nat) : List (Nat × Option Nat) → Array Bool → Bool
  | [], listed => Region.seqB md ops (ops.size - n) n listed
  | (i, none) :: fs, listed => decide (i < n) && (Region.ready md ops listed).contains i && Region.free md ops listed i && planFromF md ops n fs (listed.setIfInBounds i true)
  | (i, some j) :: fs, listed => if i = j then decide (i < n) && decide (Region.ready md ops listed = [i]) && planFromF md ops n fs (listed.setIfInBounds i true)
    else decide (i < n) && decide (j < n) && decide (i ≠ j) && decide (Region.ready md ops listed = [i, j]) && decide (Region.ready md ops (listed.setIfInBounds i true) = [j]) && decide (Region.ready md ops (listed.setIfInBounds j true) = [i]) && planFromF md ops n fs ((listed.setIfInBounds i true).setIfInBounds j true)

def planBF (md : Region.Mode) (ops : Array Oper) (n : Nat) (fs : List (Nat × Option Nat)) : Bool :=
  Region.noSelect ops && tailB md ops n && decide (n ≤ ops.size) && decide (countF fs = n) && planFromF md ops n fs (Array.replicate ops.size false)

theorem loudly_op {i : Nat} {o : Oper} {K : Act → World → Prop} {a : Act} {w : World} (h0 : ops[i]? = some o) (h : loudly P ops Q S o K a w) : wpOp P ops Q i (fun a' w' => S w' ∧ K a' w') a w := by
  unfold wpOp
  simp only [h0]
  exact h

theorem planF_sound (hsel : Region.noSelect ops = true) (htl : tailB md ops n = true) (hQ : ∀ c a a' w, Q (.panic c) a w → Q (.panic c) a' w) : ∀ (fs : List (Nat × Option Nat)) (listed : Array Bool) (a : Act) (w : World),
    planFromF md ops n fs listed = true → S w → wpPlanF P ops Q S n fs a w → wpAnyN P md ops Q S n (countF fs + (ops.size - n)) listed a w
  | [], listed, a, w, hB, _, h => by
    have e : (ops.toList.drop n).length = ops.size - n := by simp
    have := wpAnyN_of_seq (S := S) (ops.toList.drop n) n listed a w (Nat.le_refl _) (fun j => by simp) (by rw [e]; exact hB) h
    rw [e] at this
    simpa [countF] using this
  | (i, none) :: fs, listed, a, w, hB, hS, h => by
    simp only [planFromF, Bool.and_eq_true, decide_eq_true_eq] at hB
    obtain ⟨⟨⟨hin, hr⟩, hf⟩, hB⟩ := hB
    obtain ⟨o, v, h0, hy, h⟩ := h
    replace h0 := nthOp_at h0
    have hl : countF ((i, none) :: fs) + (ops.size - n) = countF fs + (ops.size - n) + 1 := by simp only [countF]; omega
    rw [hl]
    refine wpAnyN_first h0 (Region.noSelect_spec hsel) (fun c a w h => hQ c _ _ w h) hin (fun j oj hj hnj => tail_of htl hj hnj hin) _ listed a w (Region.free_spec h0 hf) (by simpa using hr) hy hS ?_
    exact planF_sound hsel htl hQ fs _ _ w hB hS h
  | (i, some j) :: fs, listed, a, w, hB, hS, h => by
    by_cases hij0 : i = j
    · subst hij0
      rw [planFromF, if_pos rfl] at hB
      simp only [Bool.and_eq_true, decide_eq_true_eq] at hB
      obtain ⟨⟨hin, hr⟩, hB⟩ := hB
      obtain ⟨o, o', h0, _, hA⟩ := h
      rw [if_pos rfl] at hA
      replace h0 := nthOp_at h0
      have hl : countF ((i, some i) :: fs) + (ops.size - n) = countF fs + (ops.size - n) + 1 := by rw [countF, if_pos rfl]; omega
      rw [hl]
      refine ⟨fun e => (by rw [hr] at e; cases e), fun k hk => ?_⟩
      rw [hr] at hk
      have hk' : k = i := by simpa using hk
      subst hk'
      exact wpOp_mono (fun a' w' h' => ⟨fun _ => h'.1, planF_sound hsel htl hQ fs _ a' w' hB h'.1 h'.2⟩) (loudly_op h0 hA)
    rw [planFromF, if_neg hij0] at hB
    simp only [Bool.and_eq_true, decide_eq_true_eq] at hB
    obtain ⟨⟨⟨⟨⟨⟨hin, hjn⟩, hij⟩, hr⟩, hri⟩, hrj⟩, hB⟩ := hB
    obtain ⟨o, o', h0, h1, hA⟩ := h
    rw [if_neg hij0] at hA
    obtain ⟨hA, hA'⟩ := hA
    replace h0 := nthOp_at h0
    replace h1 := nthOp_at h1
    have hl : countF ((i, some j) :: fs) + (ops.size - n) = countF fs + (ops.size - n) + 1 + 1 := by rw [countF, if_neg hij0]; omega
    rw [hl]
    have two : ∀ (p q : Nat) (u u' : Oper) (l : Array Bool) (a : Act) (w : World), ops[q]? = some u' → Region.ready md ops l = [q] → loudly P ops Q S u' (wpPlanF P ops Q S n fs) a w →
        planFromF md ops n fs (l.setIfInBounds q true) = true → wpAnyN P md ops Q S n (countF fs + (ops.size - n) + 1) l a w := fun p q u u' l a w hq hrq hh hb => by
      refine ⟨fun e => (by rw [hrq] at e; cases e), fun k hk => ?_⟩
      rw [hrq] at hk
      have hk' : k = q := by simpa using hk
      subst hk'
      exact wpOp_mono (fun a' w' h' => ⟨fun _ => h'.1, planF_sound hsel htl hQ fs _ a' w' hb h'.1 h'.2⟩) (loudly_op hq hh)
    refine ⟨fun e => (by rw [hr] at e; cases e), fun k hk => ?_⟩
    rw [hr] at hk
    have hk' : k = i ∨ k = j := by simpa using hk
    rcases hk' with rfl | rfl
    · exact wpOp_mono (fun a' w' h' => ⟨fun _ => h'.1, two k j o o' _ a' w' h1 hri h'.2 hB⟩) (loudly_op h0 hA)
    · refine wpOp_mono (fun a' w' h' => ⟨fun _ => h'.1, two k i o' o _ a' w' h0 hrj h'.2 ?_⟩) (loudly_op h1 hA')
      rw [Array.setIfInBounds_comm _ _ (Ne.symm hij)]
      exact hB

/-- THE BEGINNING. -/
theorem wp_region_planF {id : Nat} {a : Act} {w : World} {l : List Oper} (S : World → Prop) (n : Nat) (fs : List (Nat × Option Nat)) (hm : P.follows .mixedOrders = true) (hB : planBF .any l.toArray n fs = true) (hS : S w.drew)
    (h : wpPlanF P l.toArray (NoPanic Q) S n fs a w.drew) : (Code.region id l.toArray true).wp P Q a w := by
  refine wp_region_noPanic (wp_region_any hm ?_)
  simp only [planBF, Bool.and_eq_true, decide_eq_true_eq] at hB
  obtain ⟨⟨⟨⟨hsel, htl⟩, hns⟩, hfs⟩, hp⟩ := hB
  have := planF_sound (P := P) (Q := NoPanic Q) (S := S) hsel htl (fun c a a' w h => (h : False).elim) fs _ a w.drew hp hS h
  have e : countF fs + (l.toArray.size - n) = l.length := by simp at hns ⊢; omega
  rw [e] at this
  exact wpAny_of_N (S := S) (n := n) l.length _ _ _ this

theorem planF_take {i : Nat} {fs : List (Nat × Option Nat)} {o : Oper} {a : Act} {w : World} {v : Value} (h0 : nthOp ops.toList i = some o) (hw : Region.wanted o (yielded ops a.tmps) = true)
    (hy : ∀ w', S w' → (execOp a.eval o).run P w' = .ok (.value v) w') (h : wpPlanF P ops Q S n fs (a.put o.dst v) w) : wpPlanF P ops Q S n ((i, none) :: fs) a w :=
  ⟨o, v, h0, .inl ⟨hw, hy⟩, h⟩
theorem planF_fork {i j : Nat} {fs : List (Nat × Option Nat)} {o o' : Oper} {a : Act} {w : World} (hij : i ≠ j) (h0 : nthOp ops.toList i = some o) (h1 : nthOp ops.toList j = some o')
    (h : loudly P ops Q S o (loudly P ops Q S o' (wpPlanF P ops Q S n fs)) a w) (h' : loudly P ops Q S o' (loudly P ops Q S o (wpPlanF P ops Q S n fs)) a w) : wpPlanF P ops Q S n ((i, some j) :: fs) a w :=
  ⟨o, o', h0, h1, by rw [if_neg hij]; exact ⟨h, h'⟩⟩
theorem planF_loud {i : Nat} {fs : List (Nat × Option Nat)} {o : Oper} {a : Act} {w : World} (h0 : nthOp ops.toList i = some o)
    (h : loudly P ops Q S o (wpPlanF P ops Q S n fs) a w) : wpPlanF P ops Q S n ((i, some i) :: fs) a w :=
  ⟨o, o, h0, h0, by rw [if_pos rfl]; exact h⟩
theorem loudly_of {o : Oper} {R : Act → World → Prop} {a : Act} {w : World} (hw : Region.wanted o (yielded ops a.tmps) = true)
    (h : ∀ K : Act → World → Prop, (∀ a' w', S w' → R a' w' → K a' w') → o.wp P a w K Q) : loudly P ops Q S o R a w := by
  unfold loudly
  rw [if_pos hw]
  exact .inl (h _ fun a' w' h1 h2 => ⟨h1, h2⟩)
theorem planF_tail {a : Act} {w : World} {l : List Oper} (h0 : ops.toList.drop n = l) (h : wpList P ops Q l a w) : wpPlanF P ops Q S n [] a w := by
  subst h0
  exact h
end
end Go.Proofs.Ytgnndggbjipioaa
