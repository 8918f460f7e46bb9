/- A region that draws its order, walked once in the order of the text: what only reads may be taken first under a condition S on the world; what changes the world comes up alone; the tail (which waits for all ahead of it) is walked without S. A region that draws its order, walked once in an order of one's own: what only reads may be taken first under a condition S on the world, by its number; what changes the world comes up alone; the tail is walked without S. A region that draws its order, walked in an order of one's own, where two operations that change the world may come up in either order: each of the two orders is walked. A region that draws its order, walked by a tree of one's own: where two operations that change the world come up together, each may come first, and what follows it may differ. Plain laws over regions. -/
import Derived.Test.YtdpaaoeipconcaaDoorABase
namespace Go.Proofs.YtdpaaoeipconcaaDoor
open Go.RowKit
section
variable {P : Program} {ops : Array Oper} {Q : Exit → Act → World → Prop} {md : Region.Mode} {S : World → Prop} {n : Nat}

/-- Whatever order is picked from here on, and S holds behind each operation ahead of number n. -/
def wpAnyN (P : Program) (md : Region.Mode) (ops : Array Oper) (Q : Exit → Act → World → Prop) (S : World → Prop) (n : Nat) : Nat → Array Bool → Act → World → Prop
  | 0, listed, a, w => Region.ready md ops listed = [] ∧ Q .normal a w
  | fuel + 1, listed, a, w =>
    (Region.ready md ops listed = [] → Q .normal a w) ∧
    ∀ i ∈ Region.ready md ops listed, wpOp P ops Q i (fun a' w' => (i < n → S w') ∧ wpAnyN P md ops Q S n fuel (listed.setIfInBounds i true) a' w') a w

theorem wpAny_of_N : ∀ (fuel : Nat) (listed : Array Bool) (a : Act) (w : World), wpAnyN P md ops Q S n fuel listed a w → wpAny P md ops Q fuel listed a w
  | 0, _, _, _, h => h
  | fuel + 1, _, _, _, h => ⟨h.1, fun i hi => wpOp_mono (fun a' w' h' => wpAny_of_N fuel _ a' w' h'.2) (h.2 i hi)⟩

theorem wpAnyN_first {i : Nat} {oi : Oper} {v : Value} (hi : ops[i]? = some oi) (hsel : ∀ (j : Nat) (o : Oper) cs b, ops[j]? = some o → o.op ≠ .select cs b)
    (hQ : ∀ c a w, Q (.panic c) (a.put oi.dst v) w → Q (.panic c) a w) (hin : i < n)
    (htail : ∀ j oj, ops[j]? = some oj → n ≤ j → ∃ e ∈ oj.after, Region.binds md e = true ∧ e.on = i) :
    ∀ (fuel : Nat) (listed : Array Bool) (a : Act) (w : World),
      (∀ j oj, ops[j]? = some oj → j ≠ i → listed.getD j true = false → (∀ e ∈ oj.after, Region.binds md e = true → e.on ≠ i) → oi.apart ops oj = true) →
      i ∈ Region.ready md ops listed → YieldsIf P ops S oi v a → S w →
      wpAnyN P md ops Q S n fuel (listed.setIfInBounds i true) (a.put oi.dst v) w → wpAnyN P md ops Q S n (fuel + 1) listed a w := by
  intro fuel
  induction fuel with
  | zero =>
    intro listed a w _ hr hy hS H
    refine ⟨fun h => (by rw [h] at hr; cases hr), fun j hj => ?_⟩
    by_cases hji : j = i
    · subst hji; exact hy.wpOp hi hS ⟨fun _ => hS, H⟩
    · have := ready_mono hj hji
      rw [H.1] at this
      cases this
  | succ fuel ih =>
    intro listed a w hfree hr hy hS H
    refine ⟨fun h => (by rw [h] at hr; cases hr), fun j hj => ?_⟩
    by_cases hji : j = i
    · subst hji; exact hy.wpOp hi hS ⟨fun _ => hS, H⟩
    · have h1 := H.2 j (ready_mono hj hji)
      obtain ⟨hjun, oj, hoj, hall⟩ := mem_ready.1 hj
      have hnot : ∀ e ∈ oj.after, Region.binds md e = true → e.on ≠ i := fun e he hb heq => by
        have h1 := hall e he hb
        have h0 := (mem_ready.1 hr).1
        rw [heq] at h1
        rcases Nat.lt_or_ge i listed.size with h' | h'
        · simp [h'] at h0 h1; rw [h0] at h1; cases h1
        · simp [Array.getElem?_eq_none h'] at h1
      have hjn : j < n := by
        rcases Nat.lt_or_ge j n with h | h
        · exact h
        · obtain ⟨e, he, hb, heq⟩ := htail j oj hoj h
          exact absurd heq (hnot e he hb)
      have h2 := wpOp_putIf hoj (hfree j oj hoj hji hjun hnot) (fun cs b => hsel i oi cs b hi) (fun cs b => hsel j oj cs b hoj) hQ hy h1
      have hfree' : ∀ k ok, ops[k]? = some ok → k ≠ i → (listed.setIfInBounds j true).getD k true = false →
          (∀ e ∈ ok.after, Region.binds md e = true → e.on ≠ i) → oi.apart ops ok = true := fun k ok hk hki hun hno => by
        refine hfree k ok hk hki ?_ hno
        by_cases hjk : j = k
        · subst hjk; exact hjun
        · rw [getD_set_ne true hjk] at hun; exact hun
      refine wpOp_mono (fun a' w' h3 => ⟨h3.2.1, ih (listed.setIfInBounds j true) a' w' hfree' (ready_mono hr (Ne.symm hji)) h3.1 (h3.2.1 hjn) ?_⟩) h2
      rw [Array.setIfInBounds_comm _ _ hji]
      exact h3.2.2

/-- The tail: one order alone. -/
theorem wpAnyN_of_seq : ∀ (l : List Oper) (k : Nat) (listed : Array Bool) (a : Act) (w : World), n ≤ k → (∀ j, l[j]? = ops[k + j]?) →
    Region.seqB md ops l.length k listed = true → wpList P ops Q l a w → wpAnyN P md ops Q S n l.length listed a w
  | [], _, _, _, _, _, _, hB, h => ⟨by simpa [Region.seqB] using hB, h⟩
  | o :: l, k, listed, a, w, hnk, hl, hB, h => by
    have h0 : ops[k]? = some o := by simpa using (hl 0).symm
    simp only [List.length_cons, Region.seqB, Bool.and_eq_true, decide_eq_true_eq] at hB
    refine ⟨fun h1 => (by rw [hB.1] at h1; cases h1), fun i hi => ?_⟩
    rw [hB.1] at hi
    have hik : i = k := by simpa using hi
    subst hik
    have hw : wpOp P ops Q i (wpList P ops Q l) a w := by unfold wpOp; simp only [h0]; exact h
    exact wpOp_mono (fun a' w' h' => ⟨fun h => by omega, wpAnyN_of_seq l (i + 1) _ a' w' (by omega) (fun j => by have := hl (j + 1); simpa [Nat.add_assoc, Nat.add_comm 1 j] using this) hB.2 h'⟩) hw

/-- The plan: true: taken first; false: comes up alone; behind its end: the tail. -/
def wpPlan (P : Program) (ops : Array Oper) (Q : Exit → Act → World → Prop) (S : World → Prop) : List Bool → List Oper → Act → World → Prop
  | [], l, a, w => wpList P ops Q l a w
  | _ :: _, [], _, _ => False
  | true :: fs, o :: l, a, w => ∃ v, YieldsIf P ops S o v a ∧ wpPlan P ops Q S fs l (a.put o.dst v) w
  | false :: fs, o :: l, a, w => (if Region.wanted o (yielded ops a.tmps) then o.wp P a w (fun a' w' => S w' ∧ wpPlan P ops Q S fs l a' w') Q ∨ (o.asks P a w ∧ LetsOut Q) else S w ∧ wpPlan P ops Q S fs l (a.put o.dst undef) w)

def planFrom (md : Region.Mode) (ops : Array Oper) : List Bool → Nat → Array Bool → Bool
  | [], k, listed => Region.seqB md ops (ops.size - k) k listed
  | true :: fs, k, listed => (Region.ready md ops listed).contains k && Region.free md ops listed k && planFrom md ops fs (k + 1) (listed.setIfInBounds k true)
  | false :: fs, k, listed => decide (Region.ready md ops listed = [k]) && planFrom md ops fs (k + 1) (listed.setIfInBounds k true)

def tailB (md : Region.Mode) (ops : Array Oper) (n : Nat) : Bool :=
  (List.range ops.size).all fun j => decide (j < n) || (List.range n).all fun i => Region.waitsFor md ops j i

def planB (md : Region.Mode) (ops : Array Oper) (fs : List Bool) : Bool :=
  Region.noSelect ops && tailB md ops fs.length && decide (fs.length ≤ ops.size) && planFrom md ops fs 0 (Array.replicate ops.size false)

theorem tail_of {j i : Nat} {oj : Oper} (h : tailB md ops n = true) (hj : ops[j]? = some oj) (hn : n ≤ j) (hi : i < n) : ∃ e ∈ oj.after, Region.binds md e = true ∧ e.on = i := by
  have hjs : j < ops.size := (Array.getElem?_eq_some_iff.1 hj).1
  have h1 := List.all_eq_true.1 h j (List.mem_range.2 hjs)
  simp only [Bool.or_eq_true, decide_eq_true_eq] at h1
  rcases h1 with h1 | h1
  · omega
  obtain ⟨oj', hj', e, he, hb, heq⟩ := Region.waitsFor_spec (List.all_eq_true.1 h1 i (List.mem_range.2 hi))
  rw [hj] at hj'
  cases hj'
  exact ⟨e, he, hb, heq⟩

theorem plan_sound (hsel : Region.noSelect ops = true) (htl : tailB md ops n = true) (hQ : ∀ c a a' w, Q (.panic c) a w → Q (.panic c) a' w) : ∀ (fs : List Bool) (l : List Oper) (k : Nat) (listed : Array Bool) (a : Act) (w : World),
    (∀ j, l[j]? = ops[k + j]?) → k + l.length = ops.size → k + fs.length = n → planFrom md ops fs k listed = true → S w → wpPlan P ops Q S fs l a w → wpAnyN P md ops Q S n l.length listed a w
  | [], l, k, listed, a, w, hl, hsz, hn, hB, _, h => by
    have : l.length = ops.size - k := by omega
    exact wpAnyN_of_seq l k listed a w (by simp at hn; omega) hl (by rw [this]; exact hB) h
  | _ :: _, [], _, _, _, _, _, _, _, _, _, h => h.elim
  | true :: fs, o :: l, k, listed, a, w, hl, hsz, hn, hB, hS, h => by
    have h0 : ops[k]? = some o := by simpa using (hl 0).symm
    simp only [planFrom, Bool.and_eq_true] at hB
    obtain ⟨⟨hr, hf⟩, hB⟩ := hB
    obtain ⟨v, hy, h⟩ := h
    simp only [List.length_cons] at hsz hn
    refine wpAnyN_first h0 (Region.noSelect_spec hsel) (fun c a w h => hQ c _ _ w h) (by omega) (fun j oj hj hnj => tail_of htl hj hnj (by omega)) l.length listed a w (Region.free_spec h0 hf) (by simpa using hr) hy hS ?_
    exact plan_sound hsel htl hQ fs l (k + 1) _ _ w (fun j => by have := hl (j + 1); simpa [Nat.add_assoc, Nat.add_comm 1 j] using this) (by omega) (by omega) hB hS h
  | false :: fs, o :: l, k, listed, a, w, hl, hsz, hn, hB, hS, h => by
    have h0 : ops[k]? = some o := by simpa using (hl 0).symm
    simp only [planFrom, Bool.and_eq_true, decide_eq_true_eq] at hB
    obtain ⟨hr, hB⟩ := hB
    simp only [List.length_cons] at hsz hn
    refine ⟨fun h1 => (by rw [hr] at h1; cases h1), fun i hi => ?_⟩
    rw [hr] at hi
    have hik : i = k := by simpa using hi
    subst hik
    have hw : wpOp P ops Q i (fun a' w' => S w' ∧ wpPlan P ops Q S fs l a' w') a w := by unfold wpOp; simp only [h0]; exact h
    exact wpOp_mono (fun a' w' h' => ⟨fun _ => h'.1, plan_sound hsel htl hQ fs l (i + 1) _ a' w' (fun j => by have := hl (j + 1); simpa [Nat.add_assoc, Nat.add_comm 1 j] using this) (by omega) (by omega) hB h'.1 h'.2⟩) hw

/-- THE BEGINNING. -/
theorem wp_region_plan {id : Nat} {a : Act} {w : World} {l : List Oper} (S : World → Prop) (fs : List Bool) (hm : P.follows .mixedOrders = true) (hB : planB .any l.toArray fs = true) (hS : S w.drew)
    (h : wpPlan P l.toArray (NoPanic Q) S fs l a w.drew) : (Code.region id l.toArray true).wp P Q a w := by
  refine wp_region_noPanic (wp_region_any hm ?_)
  simp only [planB, Bool.and_eq_true, decide_eq_true_eq] at hB
  obtain ⟨⟨⟨hsel, htl⟩, _⟩, hp⟩ := hB
  have := plan_sound (P := P) (Q := NoPanic Q) (S := S) hsel htl (fun c a a' w h => (h : False).elim) fs l 0 _ a w.drew (fun j => by simp) (by simp) (by simp) hp hS h
  exact wpAny_of_N (S := S) (n := fs.length) l.length _ _ _ this

theorem plan_take {fs : List Bool} {o : Oper} {l : List Oper} {a : Act} {w : World} {v : Value} (hw : Region.wanted o (yielded ops a.tmps) = true)
    (hy : ∀ w', S w' → (execOp a.eval o).run P w' = .ok (.value v) w') (h : wpPlan P ops Q S fs l (a.put o.dst v) w) : wpPlan P ops Q S (true :: fs) (o :: l) a w :=
  ⟨v, .inl ⟨hw, hy⟩, h⟩
/-- An operation whose guard says no. -/
theorem plan_pass {fs : List Bool} {o : Oper} {l : List Oper} {a : Act} {w : World} (hw : Region.wanted o (yielded ops a.tmps) = false)
    (h : wpPlan P ops Q S fs l (a.put o.dst undef) w) : wpPlan P ops Q S (true :: fs) (o :: l) a w :=
  ⟨undef, .inr ⟨hw, rfl⟩, h⟩
theorem plan_loud {fs : List Bool} {o : Oper} {l : List Oper} {a : Act} {w : World} (hw : Region.wanted o (yielded ops a.tmps) = true)
    (h : ∀ K : Act → World → Prop, (∀ a' w', S w' → wpPlan P ops Q S fs l a' w' → K a' w') → o.wp P a w K Q) : wpPlan P ops Q S (false :: fs) (o :: l) a w := by
  show if _ then _ else _
  rw [if_pos hw]
  exact .inl (h _ fun a' w' h1 h2 => ⟨h1, h2⟩)
theorem plan_tail {l : List Oper} {a : Act} {w : World} (h : wpList P ops Q l a w) : wpPlan P ops Q S [] l a w := h
end
end Go.Proofs.YtdpaaoeipconcaaDoor

namespace Go.Proofs.YtdpaaoeipconcaaDoor
open Go.RowKit
/-- taken first -/
abbrev tks (l : List Nat) : List (Nat × Bool) := l.map fun i => (i, true)
/-- alone -/
abbrev lds (l : List Nat) : List (Nat × Bool) := l.map fun i => (i, false)

section
variable {P : Program} {ops : Array Oper} {Q : Exit → Act → World → Prop} {md : Region.Mode} {S : World → Prop} {n : Nat}

/-- operation number i of the text -/
def nthOp : List Oper → Nat → Option Oper
  | [], _ => none
  | o :: _, 0 => some o
  | _ :: l, i + 1 => nthOp l i

theorem nthOp_eq : ∀ (l : List Oper) (i : Nat), nthOp l i = l[i]?
  | [], _ => by simp [nthOp]
  | o :: _, 0 => by simp [nthOp]
  | _ :: l, i + 1 => by simp [nthOp, nthOp_eq l i]

theorem nthOp_at {i : Nat} {o : Oper} (h : nthOp ops.toList i = some o) : ops[i]? = some o := by
  rw [nthOp_eq] at h
  simpa using h

/-- The plan by numbers: (i, true): operation i is taken first; (i, false): it comes up alone; behind its end: the tail from n on. -/
def wpPlanP (P : Program) (ops : Array Oper) (Q : Exit → Act → World → Prop) (S : World → Prop) (n : Nat) : List (Nat × Bool) → Act → World → Prop
  | [], a, w => wpList P ops Q (ops.toList.drop n) a w
  | (i, true) :: fs, a, w => ∃ o v, nthOp ops.toList i = some o ∧ YieldsIf P ops S o v a ∧ wpPlanP P ops Q S n fs (a.put o.dst v) w
  | (i, false) :: fs, a, w => ∃ o, nthOp ops.toList i = some o ∧ (if Region.wanted o (yielded ops a.tmps) then o.wp P a w (fun a' w' => S w' ∧ wpPlanP P ops Q S n fs a' w') Q ∨ (o.asks P a w ∧ LetsOut Q) else S w ∧ wpPlanP P ops Q S n fs (a.put o.dst undef) w)

def planFromP (md : Region.Mode) (ops : Array Oper) (n : Nat) : List (Nat × Bool) → Array Bool → Bool
  | [], listed => Region.seqB md ops (ops.size - n) n listed
  | (i, true) :: fs, listed => decide (i < n) && (Region.ready md ops listed).contains i && Region.free md ops listed i && planFromP md ops n fs (listed.setIfInBounds i true)
  | (i, false) :: fs, listed => decide (i < n) && decide (Region.ready md ops listed = [i]) && planFromP md ops n fs (listed.setIfInBounds i true)

def planBP (md : Region.Mode) (ops : Array Oper) (n : Nat) (fs : List (Nat × Bool)) : Bool :=
  Region.noSelect ops && tailB md ops n && decide (n ≤ ops.size) && decide (fs.length = n) && planFromP md ops n fs (Array.replicate ops.size false)

theorem planP_sound (hsel : Region.noSelect ops = true) (htl : tailB md ops n = true) (hQ : ∀ c a a' w, Q (.panic c) a w → Q (.panic c) a' w) : ∀ (fs : List (Nat × Bool)) (listed : Array Bool) (a : Act) (w : World),
    planFromP md ops n fs listed = true → S w → wpPlanP P ops Q S n fs a w → wpAnyN P md ops Q S n (fs.length + (ops.size - n)) listed a w
  | [], listed, a, w, hB, _, h => by
    have e : (ops.toList.drop n).length = ops.size - n := by simp
    have := wpAnyN_of_seq (S := S) (ops.toList.drop n) n listed a w (Nat.le_refl _) (fun j => by simp) (by rw [e]; exact hB) h
    rw [e] at this
    simpa using this
  | (i, true) :: fs, listed, a, w, hB, hS, h => by
    simp only [planFromP, Bool.and_eq_true, decide_eq_true_eq] at hB
    obtain ⟨⟨⟨hin, hr⟩, hf⟩, hB⟩ := hB
    obtain ⟨o, v, h0, hy, h⟩ := h
    replace h0 := nthOp_at h0
    have hl : ((i, true) :: fs).length + (ops.size - n) = fs.length + (ops.size - n) + 1 := by simp only [List.length_cons]; omega
    rw [hl]
    refine wpAnyN_first h0 (Region.noSelect_spec hsel) (fun c a w h => hQ c _ _ w h) hin (fun j oj hj hnj => tail_of htl hj hnj hin) _ listed a w (Region.free_spec h0 hf) (by simpa using hr) hy hS ?_
    exact planP_sound hsel htl hQ fs _ _ w hB hS h
  | (i, false) :: fs, listed, a, w, hB, hS, h => by
    simp only [planFromP, Bool.and_eq_true, decide_eq_true_eq] at hB
    obtain ⟨⟨hin, hr⟩, hB⟩ := hB
    obtain ⟨o, h0, h⟩ := h
    replace h0 := nthOp_at h0
    have hl : ((i, false) :: fs).length + (ops.size - n) = fs.length + (ops.size - n) + 1 := by simp only [List.length_cons]; omega
    rw [hl]
    refine ⟨fun h1 => (by rw [hr] at h1; cases h1), fun k hk => ?_⟩
    rw [hr] at hk
    have hik : k = i := by simpa using hk
    subst hik
    have hw : wpOp P ops Q k (fun a' w' => S w' ∧ wpPlanP P ops Q S n fs a' w') a w := by unfold wpOp; simp only [h0]; exact h
    exact wpOp_mono (fun a' w' h' => ⟨fun _ => h'.1, planP_sound hsel htl hQ fs _ _ w' hB h'.1 h'.2⟩) hw

/-- THE BEGINNING. -/
theorem wp_region_planP {id : Nat} {a : Act} {w : World} {l : List Oper} (S : World → Prop) (n : Nat) (fs : List (Nat × Bool)) (hm : P.follows .mixedOrders = true) (hB : planBP .any l.toArray n fs = true) (hS : S w.drew)
    (h : wpPlanP P l.toArray (NoPanic Q) S n fs a w.drew) : (Code.region id l.toArray true).wp P Q a w := by
  refine wp_region_noPanic (wp_region_any hm ?_)
  simp only [planBP, Bool.and_eq_true, decide_eq_true_eq] at hB
  obtain ⟨⟨⟨⟨hsel, htl⟩, hns⟩, hfs⟩, hp⟩ := hB
  have := planP_sound (P := P) (Q := NoPanic Q) (S := S) hsel htl (fun c a a' w h => (h : False).elim) fs _ a w.drew hp hS h
  have e : fs.length + (l.toArray.size - n) = l.length := by simp at hns ⊢; omega
  rw [e] at this
  exact wpAny_of_N (S := S) (n := n) l.length _ _ _ this

theorem planP_take {i : Nat} {fs : List (Nat × Bool)} {o : Oper} {a : Act} {w : World} {v : Value} (h0 : nthOp ops.toList i = some o) (hw : Region.wanted o (yielded ops a.tmps) = true)
    (hy : ∀ w', S w' → (execOp a.eval o).run P w' = .ok (.value v) w') (h : wpPlanP P ops Q S n fs (a.put o.dst v) w) : wpPlanP P ops Q S n ((i, true) :: fs) a w :=
  ⟨o, v, h0, .inl ⟨hw, hy⟩, h⟩
/-- An operation whose guard says no. -/
theorem planP_pass {i : Nat} {fs : List (Nat × Bool)} {o : Oper} {a : Act} {w : World} (h0 : nthOp ops.toList i = some o) (hw : Region.wanted o (yielded ops a.tmps) = false)
    (h : wpPlanP P ops Q S n fs (a.put o.dst undef) w) : wpPlanP P ops Q S n ((i, true) :: fs) a w :=
  ⟨o, undef, h0, .inr ⟨hw, rfl⟩, h⟩
theorem planP_loud {i : Nat} {fs : List (Nat × Bool)} {o : Oper} {a : Act} {w : World} (h0 : nthOp ops.toList i = some o) (hw : Region.wanted o (yielded ops a.tmps) = true)
    (h : ∀ K : Act → World → Prop, (∀ a' w', S w' → wpPlanP P ops Q S n fs a' w' → K a' w') → o.wp P a w K Q) : wpPlanP P ops Q S n ((i, false) :: fs) a w := by
  refine ⟨o, h0, ?_⟩
  rw [if_pos hw]
  exact .inl (h _ fun a' w' h1 h2 => ⟨h1, h2⟩)
theorem planP_tail {a : Act} {w : World} {l : List Oper} (h0 : ops.toList.drop n = l) (h : wpList P ops Q l a w) : wpPlanP P ops Q S n [] a w := by
  subst h0
  exact h
end
end Go.Proofs.YtdpaaoeipconcaaDoor

namespace Go.Proofs.YtdpaaoeipconcaaDoor
open Go.RowKit
section
variable {P : Program} {ops : Array Oper} {Q : Exit → Act → World → Prop} {md : Region.Mode} {S : World → Prop} {n : Nat}

/-- One loud operation, then K. -/
def loudly (P : Program) (ops : Array Oper) (Q : Exit → Act → World → Prop) (S : World → Prop) (o : Oper) (K : Act → World → Prop) (a : Act) (w : World) : Prop :=
  if Region.wanted o (yielded ops a.tmps) then o.wp P a w (fun a' w' => S w' ∧ K a' w') Q ∨ (o.asks P a w ∧ LetsOut Q) else S w ∧ K (a.put o.dst undef) w

/-- The plan: (i, none): operation i is taken first; (i, some j): i and j come up together, both loud; (i, some i): i comes up alone, loud; behind its end: the tail from n on. -/
def wpPlanF (P : Program) (ops : Array Oper) (Q : Exit → Act → World → Prop) (S : World → Prop) (n : Nat) : List (Nat × Option Nat) → Act → World → Prop
  | [], a, w => wpList P ops Q (ops.toList.drop n) a w
  | (i, none) :: fs, a, w => ∃ o v, nthOp ops.toList i = some o ∧ YieldsIf P ops S o v a ∧ wpPlanF P ops Q S n fs (a.put o.dst v) w
  | (i, some j) :: fs, a, w => ∃ o o', nthOp ops.toList i = some o ∧ nthOp ops.toList j = some o' ∧
      if i = j then loudly P ops Q S o (wpPlanF P ops Q S n fs) a w
      else loudly P ops Q S o (loudly P ops Q S o' (wpPlanF P ops Q S n fs)) a w ∧ loudly P ops Q S o' (loudly P ops Q S o (wpPlanF P ops Q S n fs)) a w

def countF : List (Nat × Option Nat) → Nat
  | [] => 0
  | (_, none) :: fs => countF fs + 1
  | (i, some j) :: fs => if i = j then countF fs + 1 else countF fs + 2

def planFromF (md : Region.Mode) (ops : Array Oper) (n : Nat) : List (Nat × Option Nat) → Array Bool → Bool
  | [], listed => Region.seqB md ops (ops.size - n) n listed
  | (i, none) :: fs, listed => decide (i < n) && (Region.ready md ops listed).contains i && Region.free md ops listed i && planFromF md ops n fs (listed.setIfInBounds i true)
  | (i, some j) :: fs, listed => if i = j then decide (i < n) && decide (Region.ready md ops listed = [i]) && planFromF md ops n fs (listed.setIfInBounds i true)
    else decide (i < n) && decide (j < n) && decide (i ≠ j) && decide (Region.ready md ops listed = [i, j]) && decide (Region.ready md ops (listed.setIfInBounds i true) = [j]) && decide (Region.ready md ops (listed.setIfInBounds j true) = [i]) && planFromF md ops n fs ((listed.setIfInBounds i true).setIfInBounds j true)

def planBF (md : Region.Mode) (ops : Array Oper) (n : Nat) (fs : List (Nat × Option Nat)) : Bool :=
  Region.noSelect ops && tailB md ops n && decide (n ≤ ops.size) && decide (countF fs = n) && planFromF md ops n fs (Array.replicate ops.size false)

theorem loudly_op {i : Nat} {o : Oper} {K : Act → World → Prop} {a : Act} {w : World} (h0 : ops[i]? = some o) (h : loudly P ops Q S o K a w) : wpOp P ops Q i (fun a' w' => S w' ∧ K a' w') a w := by
  unfold wpOp
  simp only [h0]
  exact h

theorem planF_sound (hsel : Region.noSelect ops = true) (htl : tailB md ops n = true) (hQ : ∀ c a a' w, Q (.panic c) a w → Q (.panic c) a' w) : ∀ (fs : List (Nat × Option Nat)) (listed : Array Bool) (a : Act) (w : World),
    planFromF md ops n fs listed = true → S w → wpPlanF P ops Q S n fs a w → wpAnyN P md ops Q S n (countF fs + (ops.size - n)) listed a w
  | [], listed, a, w, hB, _, h => by
    have e : (ops.toList.drop n).length = ops.size - n := by simp
    have := wpAnyN_of_seq (S := S) (ops.toList.drop n) n listed a w (Nat.le_refl _) (fun j => by simp) (by rw [e]; exact hB) h
    rw [e] at this
    simpa [countF] using this
  | (i, none) :: fs, listed, a, w, hB, hS, h => by
    simp only [planFromF, Bool.and_eq_true, decide_eq_true_eq] at hB
    obtain ⟨⟨⟨hin, hr⟩, hf⟩, hB⟩ := hB
    obtain ⟨o, v, h0, hy, h⟩ := h
    replace h0 := nthOp_at h0
    have hl : countF ((i, none) :: fs) + (ops.size - n) = countF fs + (ops.size - n) + 1 := by simp only [countF]; omega
    rw [hl]
    refine wpAnyN_first h0 (Region.noSelect_spec hsel) (fun c a w h => hQ c _ _ w h) hin (fun j oj hj hnj => tail_of htl hj hnj hin) _ listed a w (Region.free_spec h0 hf) (by simpa using hr) hy hS ?_
    exact planF_sound hsel htl hQ fs _ _ w hB hS h
  | (i, some j) :: fs, listed, a, w, hB, hS, h => by
    by_cases hij0 : i = j
    · subst hij0
      rw [planFromF, if_pos rfl] at hB
      simp only [Bool.and_eq_true, decide_eq_true_eq] at hB
      obtain ⟨⟨hin, hr⟩, hB⟩ := hB
      obtain ⟨o, o', h0, _, hA⟩ := h
      rw [if_pos rfl] at hA
      replace h0 := nthOp_at h0
      have hl : countF ((i, some i) :: fs) + (ops.size - n) = countF fs + (ops.size - n) + 1 := by rw [countF, if_pos rfl]; omega
      rw [hl]
      refine ⟨fun e => (by rw [hr] at e; cases e), fun k hk => ?_⟩
      rw [hr] at hk
      have hk' : k = i := by simpa using hk
      subst hk'
      exact wpOp_mono (fun a' w' h' => ⟨fun _ => h'.1, planF_sound hsel htl hQ fs _ a' w' hB h'.1 h'.2⟩) (loudly_op h0 hA)
    rw [planFromF, if_neg hij0] at hB
    simp only [Bool.and_eq_true, decide_eq_true_eq] at hB
    obtain ⟨⟨⟨⟨⟨⟨hin, hjn⟩, hij⟩, hr⟩, hri⟩, hrj⟩, hB⟩ := hB
    obtain ⟨o, o', h0, h1, hA⟩ := h
    rw [if_neg hij0] at hA
    obtain ⟨hA, hA'⟩ := hA
    replace h0 := nthOp_at h0
    replace h1 := nthOp_at h1
    have hl : countF ((i, some j) :: fs) + (ops.size - n) = countF fs + (ops.size - n) + 1 + 1 := by rw [countF, if_neg hij0]; omega
    rw [hl]
    have two : ∀ (p q : Nat) (u u' : Oper) (l : Array Bool) (a : Act) (w : World), ops[q]? = some u' → Region.ready md ops l = [q] → loudly P ops Q S u' (wpPlanF P ops Q S n fs) a w →
        planFromF md ops n fs (l.setIfInBounds q true) = true → wpAnyN P md ops Q S n (countF fs + (ops.size - n) + 1) l a w := fun p q u u' l a w hq hrq hh hb => by
      refine ⟨fun e => (by rw [hrq] at e; cases e), fun k hk => ?_⟩
      rw [hrq] at hk
      have hk' : k = q := by simpa using hk
      subst hk'
      exact wpOp_mono (fun a' w' h' => ⟨fun _ => h'.1, planF_sound hsel htl hQ fs _ a' w' hb h'.1 h'.2⟩) (loudly_op hq hh)
    refine ⟨fun e => (by rw [hr] at e; cases e), fun k hk => ?_⟩
    rw [hr] at hk
    have hk' : k = i ∨ k = j := by simpa using hk
    rcases hk' with rfl | rfl
    · exact wpOp_mono (fun a' w' h' => ⟨fun _ => h'.1, two k j o o' _ a' w' h1 hri h'.2 hB⟩) (loudly_op h0 hA)
    · refine wpOp_mono (fun a' w' h' => ⟨fun _ => h'.1, two k i o' o _ a' w' h0 hrj h'.2 ?_⟩) (loudly_op h1 hA')
      rw [Array.setIfInBounds_comm _ _ (Ne.symm hij)]
      exact hB

/-- THE BEGINNING. -/
theorem wp_region_planF {id : Nat} {a : Act} {w : World} {l : List Oper} (S : World → Prop) (n : Nat) (fs : List (Nat × Option Nat)) (hm : P.follows .mixedOrders = true) (hB : planBF .any l.toArray n fs = true) (hS : S w.drew)
    (h : wpPlanF P l.toArray (NoPanic Q) S n fs a w.drew) : (Code.region id l.toArray true).wp P Q a w := by
  refine wp_region_noPanic (wp_region_any hm ?_)
  simp only [planBF, Bool.and_eq_true, decide_eq_true_eq] at hB
  obtain ⟨⟨⟨⟨hsel, htl⟩, hns⟩, hfs⟩, hp⟩ := hB
  have := planF_sound (P := P) (Q := NoPanic Q) (S := S) hsel htl (fun c a a' w h => (h : False).elim) fs _ a w.drew hp hS h
  have e : countF fs + (l.toArray.size - n) = l.length := by simp at hns ⊢; omega
  rw [e] at this
  exact wpAny_of_N (S := S) (n := n) l.length _ _ _ this

theorem planF_take {i : Nat} {fs : List (Nat × Option Nat)} {o : Oper} {a : Act} {w : World} {v : Value} (h0 : nthOp ops.toList i = some o) (hw : Region.wanted o (yielded ops a.tmps) = true)
    (hy : ∀ w', S w' → (execOp a.eval o).run P w' = .ok (.value v) w') (h : wpPlanF P ops Q S n fs (a.put o.dst v) w) : wpPlanF P ops Q S n ((i, none) :: fs) a w :=
  ⟨o, v, h0, .inl ⟨hw, hy⟩, h⟩
theorem planF_fork {i j : Nat} {fs : List (Nat × Option Nat)} {o o' : Oper} {a : Act} {w : World} (hij : i ≠ j) (h0 : nthOp ops.toList i = some o) (h1 : nthOp ops.toList j = some o')
    (h : loudly P ops Q S o (loudly P ops Q S o' (wpPlanF P ops Q S n fs)) a w) (h' : loudly P ops Q S o' (loudly P ops Q S o (wpPlanF P ops Q S n fs)) a w) : wpPlanF P ops Q S n ((i, some j) :: fs) a w :=
  ⟨o, o', h0, h1, by rw [if_neg hij]; exact ⟨h, h'⟩⟩
theorem planF_loud {i : Nat} {fs : List (Nat × Option Nat)} {o : Oper} {a : Act} {w : World} (h0 : nthOp ops.toList i = some o)
    (h : loudly P ops Q S o (wpPlanF P ops Q S n fs) a w) : wpPlanF P ops Q S n ((i, some i) :: fs) a w :=
  ⟨o, o, h0, h0, by rw [if_pos rfl]; exact h⟩
theorem loudly_of {o : Oper} {R : Act → World → Prop} {a : Act} {w : World} (hw : Region.wanted o (yielded ops a.tmps) = true)
    (h : ∀ K : Act → World → Prop, (∀ a' w', S w' → R a' w' → K a' w') → o.wp P a w K Q) : loudly P ops Q S o R a w := by
  unfold loudly
  rw [if_pos hw]
  exact .inl (h _ fun a' w' h1 h2 => ⟨h1, h2⟩)
theorem planF_tail {a : Act} {w : World} {l : List Oper} (h0 : ops.toList.drop n = l) (h : wpList P ops Q l a w) : wpPlanF P ops Q S n [] a w := by
  subst h0
  exact h
end
end Go.Proofs.YtdpaaoeipconcaaDoor

namespace Go.Proofs.YtdpaaoeipconcaaDoor
open Go.RowKit
section
variable {P : Program} {ops : Array Oper} {Q : Exit → Act → World → Prop} {md : Region.Mode} {S : World → Prop} {n : Nat}

/-- The tree: the tail; an operation that is taken first; a loud one alone; two loud ones, each first. -/
inductive PT where
  | tail
  | take (i : Nat) (p : PT)
  | one (i : Nat) (p : PT)
  | two (i j : Nat) (p q : PT)

def wpPT (P : Program) (ops : Array Oper) (Q : Exit → Act → World → Prop) (S : World → Prop) (n : Nat) : PT → Act → World → Prop
  | .tail, a, w => wpList P ops Q (ops.toList.drop n) a w
  | .take i p, a, w => ∃ o v, nthOp ops.toList i = some o ∧ YieldsIf P ops S o v a ∧ wpPT P ops Q S n p (a.put o.dst v) w
  | .one i p, a, w => ∃ o, nthOp ops.toList i = some o ∧ loudly P ops Q S o (wpPT P ops Q S n p) a w
  | .two i j p q, a, w => ∃ o o', nthOp ops.toList i = some o ∧ nthOp ops.toList j = some o' ∧ loudly P ops Q S o (wpPT P ops Q S n p) a w ∧ loudly P ops Q S o' (wpPT P ops Q S n q) a w

def countPT : PT → Nat
  | .tail => 0
  | .take _ p => countPT p + 1
  | .one _ p => countPT p + 1
  | .two _ _ p _ => countPT p + 1

def fromPT (md : Region.Mode) (ops : Array Oper) (n : Nat) : PT → Array Bool → Bool
  | .tail, listed => Region.seqB md ops (ops.size - n) n listed
  | .take i p, listed => decide (i < n) && (Region.ready md ops listed).contains i && Region.free md ops listed i && fromPT md ops n p (listed.setIfInBounds i true)
  | .one i p, listed => decide (i < n) && decide (Region.ready md ops listed = [i]) && fromPT md ops n p (listed.setIfInBounds i true)
  | .two i j p q, listed => decide (i < n) && decide (j < n) && decide (Region.ready md ops listed = [i, j]) && decide (countPT p = countPT q) && fromPT md ops n p (listed.setIfInBounds i true) && fromPT md ops n q (listed.setIfInBounds j true)

def treeB (md : Region.Mode) (ops : Array Oper) (n : Nat) (p : PT) : Bool :=
  Region.noSelect ops && tailB md ops n && decide (n ≤ ops.size) && decide (countPT p = n) && fromPT md ops n p (Array.replicate ops.size false)

theorem pt_sound (hsel : Region.noSelect ops = true) (htl : tailB md ops n = true) (hQ : ∀ c a a' w, Q (.panic c) a w → Q (.panic c) a' w) : ∀ (p : PT) (listed : Array Bool) (a : Act) (w : World),
    fromPT md ops n p listed = true → S w → wpPT P ops Q S n p a w → wpAnyN P md ops Q S n (countPT p + (ops.size - n)) listed a w
  | .tail, listed, a, w, hB, _, h => by
    have e : (ops.toList.drop n).length = ops.size - n := by simp
    have := wpAnyN_of_seq (S := S) (ops.toList.drop n) n listed a w (Nat.le_refl _) (fun j => by simp) (by rw [e]; exact hB) h
    rw [e] at this
    simpa [countPT] using this
  | .take i p, listed, a, w, hB, hS, h => by
    simp only [fromPT, Bool.and_eq_true, decide_eq_true_eq] at hB
    obtain ⟨⟨⟨hin, hr⟩, hf⟩, hB⟩ := hB
    obtain ⟨o, v, h0, hy, h⟩ := h
    replace h0 := nthOp_at h0
    have hl : countPT (.take i p) + (ops.size - n) = countPT p + (ops.size - n) + 1 := by simp only [countPT]; omega
    rw [hl]
    refine wpAnyN_first h0 (Region.noSelect_spec hsel) (fun c a w h => hQ c _ _ w h) hin (fun j oj hj hnj => tail_of htl hj hnj hin) _ listed a w (Region.free_spec h0 hf) (by simpa using hr) hy hS ?_
    exact pt_sound hsel htl hQ p _ _ w hB hS h
  | .one i p, listed, a, w, hB, hS, h => by
    simp only [fromPT, Bool.and_eq_true, decide_eq_true_eq] at hB
    obtain ⟨⟨hin, hr⟩, hB⟩ := hB
    obtain ⟨o, h0, hA⟩ := h
    replace h0 := nthOp_at h0
    have hl : countPT (.one i p) + (ops.size - n) = countPT p + (ops.size - n) + 1 := by simp only [countPT]; omega
    rw [hl]
    refine ⟨fun e => (by rw [hr] at e; cases e), fun k hk => ?_⟩
    rw [hr] at hk
    have hk' : k = i := by simpa using hk
    subst hk'
    exact wpOp_mono (fun a' w' h' => ⟨fun _ => h'.1, pt_sound hsel htl hQ p _ a' w' hB h'.1 h'.2⟩) (loudly_op h0 hA)
  | .two i j p q, listed, a, w, hB, hS, h => by
    simp only [fromPT, Bool.and_eq_true, decide_eq_true_eq] at hB
    obtain ⟨⟨⟨⟨⟨hin, hjn⟩, hr⟩, hc⟩, hBi⟩, hBj⟩ := hB
    obtain ⟨o, o', h0, h1, hA, hA'⟩ := h
    replace h0 := nthOp_at h0
    replace h1 := nthOp_at h1
    have hl : countPT (.two i j p q) + (ops.size - n) = countPT p + (ops.size - n) + 1 := by simp only [countPT]; omega
    rw [hl]
    refine ⟨fun e => (by rw [hr] at e; cases e), fun k hk => ?_⟩
    rw [hr] at hk
    have hk' : k = i ∨ k = j := by simpa using hk
    rcases hk' with rfl | rfl
    · exact wpOp_mono (fun a' w' h' => ⟨fun _ => h'.1, pt_sound hsel htl hQ p _ a' w' hBi h'.1 h'.2⟩) (loudly_op h0 hA)
    · refine wpOp_mono (fun a' w' h' => ⟨fun _ => h'.1, ?_⟩) (loudly_op h1 hA')
      rw [hc]
      exact pt_sound hsel htl hQ q _ a' w' hBj h'.1 h'.2

/-- THE BEGINNING. -/
theorem wp_region_tree {id : Nat} {a : Act} {w : World} {l : List Oper} (S : World → Prop) (n : Nat) (p : PT) (hm : P.follows .mixedOrders = true) (hB : treeB .any l.toArray n p = true) (hS : S w.drew)
    (h : wpPT P l.toArray (NoPanic Q) S n p a w.drew) : (Code.region id l.toArray true).wp P Q a w := by
  refine wp_region_noPanic (wp_region_any hm ?_)
  simp only [treeB, Bool.and_eq_true, decide_eq_true_eq] at hB
  obtain ⟨⟨⟨⟨hsel, htl⟩, hns⟩, hfs⟩, hp⟩ := hB
  have := pt_sound (P := P) (Q := NoPanic Q) (S := S) hsel htl (fun c a a' w h => (h : False).elim) p _ a w.drew hp hS h
  have e : countPT p + (l.toArray.size - n) = l.length := by simp at hns ⊢; omega
  rw [e] at this
  exact wpAny_of_N (S := S) (n := n) l.length _ _ _ this

theorem pt_take {i : Nat} {p : PT} {o : Oper} {a : Act} {w : World} {v : Value} (h0 : nthOp ops.toList i = some o) (hw : Region.wanted o (yielded ops a.tmps) = true)
    (hy : ∀ w', S w' → (execOp a.eval o).run P w' = .ok (.value v) w') (h : wpPT P ops Q S n p (a.put o.dst v) w) : wpPT P ops Q S n (.take i p) a w :=
  ⟨o, v, h0, .inl ⟨hw, hy⟩, h⟩
theorem pt_one {i : Nat} {p : PT} {o : Oper} {a : Act} {w : World} (h0 : nthOp ops.toList i = some o) (h : loudly P ops Q S o (wpPT P ops Q S n p) a w) : wpPT P ops Q S n (.one i p) a w := ⟨o, h0, h⟩
theorem pt_two {i j : Nat} {p q : PT} {o o' : Oper} {a : Act} {w : World} (h0 : nthOp ops.toList i = some o) (h1 : nthOp ops.toList j = some o')
    (h : loudly P ops Q S o (wpPT P ops Q S n p) a w) (h' : loudly P ops Q S o' (wpPT P ops Q S n q) a w) : wpPT P ops Q S n (.two i j p q) a w := ⟨o, o', h0, h1, h, h'⟩
theorem pt_tail {a : Act} {w : World} {l : List Oper} (h0 : ops.toList.drop n = l) (h : wpList P ops Q l a w) : wpPT P ops Q S n .tail a w := by
  subst h0
  exact h
end
end Go.Proofs.YtdpaaoeipconcaaDoor

