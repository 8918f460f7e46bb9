/- A region that draws its order, walked once in an order of one's own: what only reads may be taken first under a condition S on the world, by its number; what changes the world comes up alone; the tail is walked without S. -/
import Derived.Test.YtgnndggbjipioaaAPlan
namespace Go.Proofs.Ytgnndggbjipioaa
open Go.RowKit
/-- taken first -/
abbrev tks (l : List Nat) : List (Nat × Bool) := l.map fun i => (i, true)
/-- alone -/
abbrev lds (l : List Nat) : List (Nat × Bool) := l.map fun i => (i, false)

section
variable {P : Program} {ops : Array Oper} {Q : Exit → Act → World → Prop} {md : Region.Mode} {S : World → Prop} {n : Nat}

/-- operation number i of the text -/
def nthOp : List Oper → Nat → Option Oper
  | [], _ => none
  | o :: _, 0 => some o
  | _ :: l, i + 1 => nthOp l i

theorem nthOp_eq : ∀ (l : List Oper) (i : Nat), nthOp l i = l[i]?
  | [], _ => by simp [nthOp]
  | o :: _, 0 => by simp [nthOp]
  | _ :: l, i + 1 => by simp [nthOp, nthOp_eq l i]

theorem nthOp_at {i : Nat} {o : Oper} (h : nthOp ops.toList i = some o) : ops[i]? = some o := by
  rw [nthOp_eq] at h
  simpa using h

/-- The plan by numbers: (i, true): operation i is taken first; (i, false): it comes up alone; behind its end: the tail from n on. -/
def wpPlanP (P : Program) (ops : Array Oper) (Q : Exit → Act → World → Prop) (S : World → Prop) (n : Nat) : List (Nat × Bool) → Act → World → Prop
  | [], a, w => wpList P ops Q (ops.toList.drop n) a w
  | (i, true) :: fs, a, w => ∃ o v, nthOp ops.toList i = some o ∧ YieldsIf P ops S o v a ∧ wpPlanP P ops Q S n fs (a.put o.dst v) w
  | (i, false) :: fs, a, w => ∃ o, nthOp ops.toList i = some o ∧ (if Region.wanted o (yielded ops a.tmps) then o.wp P a w (fun a' w' => S w' ∧ wpPlanP P ops Q S n fs a' w') Q ∨ (o.asks P a w ∧ LetsOut Q) else S w ∧ wpPlanP P ops Q S n fs (a.put o.dst undef) w)

def planFromP (md : Region.Mode) (ops : Array Oper) (n : Nat) : List (Nat × Bool) → Array Bool → Bool
  | [], listed => Region.seqB md ops (ops.size - n) n listed
  | (i, true) :: fs, listed => decide (i < n) && (Region.ready md ops listed).contains i && Region.free md ops listed i && planFromP md ops n fs (listed.setIfInBounds i true)
  | (i, false) :: fs, listed => decide (i < n) && decide (Region.ready md ops listed = [i]) && planFromP md ops n fs (listed.setIfInBounds i true)

def planBP (md : Region.Mode) (ops : Array Oper) (n : Nat) (fs : List (Nat × Bool)) : Bool :=
  Region.noSelect ops && tailB md ops n && decide (n ≤ ops.size) && decide (fs.length = n) && planFromP md ops n fs (Array.replicate ops.size false)

theorem planP_sound (hsel : Region.noSelect ops = true) (htl : tailB md ops n = true) (hQ : ∀ c a a' w, Q (.panic c) a w → Q (.panic c) a' w) : ∀ (fs : List (Nat × Bool)) (listed : Array Bool) (a : Act) (w : World),
    planFromP md ops n fs listed = true → S w → wpPlanP P ops Q S n fs a w → wpAnyN P md ops Q S n (fs.length + (ops.size - n)) listed a w
  | [], listed, a, w, hB, _, h => by
    have e : (ops.toList.drop n).length = ops.size - n := by simp
    have := wpAnyN_of_seq (S := S) (ops.toList.drop n) n listed a w (Nat.le_refl _) (fun j => by simp) (by rw [e]; exact hB) h
    rw [e] at this
    simpa using this
  | (i, true) :: fs, listed, a, w, hB, hS, h => by
    simp only [planFromP, Bool.and_eq_true, decide_eq_true_eq] at hB
    obtain ⟨⟨⟨hin, hr⟩, hf⟩, hB⟩ := hB
    obtain ⟨o, v, h0, hy, h⟩ := h
    replace h0 := nthOp_at h0
    have hl : ((i, true) :: fs).length + (ops.size - n) = fs.length + (ops.size - n) + 1 := by simp only [List.length_cons]; omega
    rw [hl]
    refine wpAnyN_first h0 (Region.noSelect_spec hsel) (fun c a w h => hQ c _ _ w h) hin (fun j oj hj hnj => tail_of htl hj hnj hin) _ listed a w (Region.free_spec h0 hf) (by simpa using hr) hy hS ?_
    exact planP_sound hsel htl hQ fs _ _ w hB hS h
  | (i, false) :: fs, listed, a, w, hB, hS, h => by
    simp only [planFromP, Bool.and_eq_true, decide_eq_true_eq] at hB
    obtain ⟨⟨hin, hr⟩, hB⟩ := hB
    obtain ⟨o, h0, h⟩ := h
    replace h0 := nthOp_at h0
    have hl : ((i, false) :: fs).length + (ops.size - n) = fs.length + (ops.size - n) + 1 := by simp only [List.length_cons]; omega
    rw [hl]
    refine ⟨fun h1 => (by rw [hr] at h1; cases h1), fun k hk => ?_⟩
    rw [hr] at hk
    have hik : k = i := by simpa using hk
    subst hik
    have hw : wpOp P ops Q k (fun a' w' => S w' ∧ wpPlanP P ops Q S n fs a' w') a w := by unfold wpOp; simp only [h0]; exact h
    exact wpOp_mono (fun a' w' h' => ⟨fun _ => h'.1, planP_sound hsel htl hQ fs _ _ w' hB h'.1 h'.2⟩) hw

/-- THE BEGINNING. -/
theorem wp_region_planP {id : Nat} {a : Act} {w : World} {l : List Oper} (S : World → Prop) (n : Nat) (fs : List (Nat × Bool)) (hm : P.follows .mixedOrders = true) (hB : planBP .any l.toArray n fs = true) (hS : S w.drew)
    (h : wpPlanP P l.toArray (NoPanic Q) S n fs a w.drew) : (Code.region id l.toArray true).wp P Q a w := by
  refine wp_region_noPanic (wp_region_any hm ?_)
  simp only [planBP, Bool.and_eq_true, decide_eq_true_eq] at hB
  obtain ⟨⟨⟨⟨hsel, htl⟩, hns⟩, hfs⟩, hp⟩ := hB
  have := planP_sound (P := P) (Q := NoPanic Q) (S := S) hsel htl (fun c a a' w h => (h : False).elim) fs _ a w.drew hp hS h
  have e : fs.length + (l.toArray.size - n) = l.length := by simp at hns ⊢; omega
  rw [e] at this
  exact wpAny_of_N (S := S) (n := n) l.length _ _ _ this

theorem planP_take {i : Nat} {fs : List (Nat × Bool)} {o : Oper} {a : Act} {w : World} {v : Value} (h0 : nthOp ops.toList i = some o) (hw : Region.wanted o (yielded ops a.tmps) = true)
    (hy : ∀ w', S w' → (execOp a.eval o).run P w' = .ok (.value v) w') (h : wpPlanP P ops Q S n fs (a.put o.dst v) w) : wpPlanP P ops Q S n ((i, true) :: fs) a w :=
  ⟨o, v, h0, .inl ⟨hw, hy⟩, h⟩
/-- An operation whose guard says no. -/
theorem planP_pass {i : Nat} {fs : List (Nat × Bool)} {o : Oper} {a : Act} {w : World} (h0 : nthOp ops.toList i = some o) (hw : Region.wanted o (yielded ops a.tmps) = false)
    (h : wpPlanP P ops Q S n fs (a.put o.dst undef) w) : wpPlanP P ops Q S n ((i, true) :: fs) a w :=
  ⟨o, undef, h0, .inr ⟨hw, rfl⟩, h⟩
theorem planP_loud {i : Nat} {fs : List (Nat × Bool)} {o : Oper} {a : Act} {w : World} (h0 : nthOp ops.toList i = some o) (hw : Region.wanted o (yielded ops a.tmps) = true)
    (h : ∀ K : Act → World → Prop, (∀ a' w', S w' → wpPlanP P ops Q S n fs a' w' → K a' w') → o.wp P a w K Q) : wpPlanP P ops Q S n ((i, false) :: fs) a w := by
  refine ⟨o, h0, ?_⟩
  rw [if_pos hw]
  exact .inl (h _ fun a' w' h1 h2 => ⟨h1, h2⟩)
theorem planP_tail {a : Act} {w : World} {l : List Oper} (h0 : ops.toList.drop n = l) (h : wpList P ops Q l a w) : wpPlanP P ops Q S n [] a w := by
  subst h0
  exact h
end
end Go.Proofs.Ytgnndggbjipioaa
