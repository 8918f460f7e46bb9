/- A region that draws its order, walked once in the order of the text: what only reads may be taken first under a condition S on the world; what changes the world comes up alone; the tail (which waits for all ahead of it) is walked without S. -/
import Derived.Test.YtgnndggbjipioaaABase
namespace Go.Proofs.Ytgnndggbjipioaa
open Go.RowKit
section
variable {P : Program} {ops : Array Oper} {Q : Exit → Act → World → Prop} {md : Region.Mode} {S : World → Prop} {n : Nat}

/-- Whatever order is picked from here on, and S holds behind each operation ahead of number n. -/
def wpAnyN (P : Program) (md : Region.Mode) (ops : Array Oper) (Q : Exit → Act → World → Prop) (S : World → Prop) (n : Nat) : Nat → Array Bool → Act → World → Prop
  | 0, listed, a, w => Region.ready md ops listed = [] ∧ Q .normal a w
  | fuel + 1, listed, a, w =>
    (Region.ready md ops listed = [] → Q .normal a w) ∧
    ∀ i ∈ Region.ready md ops listed, wpOp P ops Q i (fun a' w' => (i < n → S w') ∧ wpAnyN P md ops Q S n fuel (listed.setIfInBounds i true) a' w') a w

theorem wpAny_of_N : ∀ (fuel : Nat) (listed : Array Bool) (a : Act) (w : World), wpAnyN P md ops Q S n fuel listed a w → wpAny P md ops Q fuel listed a w
  | 0, _, _, _, h => h
  | fuel + 1, _, _, _, h => ⟨h.1, fun i hi => wpOp_mono (fun a' w' h' => wpAny_of_N fuel _ a' w' h'.2) (h.2 i hi)⟩

theorem wpAnyN_first {i : Nat} {oi : Oper} {v : Value} (hi : ops[i]? = some oi) (hsel : ∀ (j : Nat) (o : Oper) cs b, ops[j]? = some o → o.op ≠ .select cs b)
    (hQ : ∀ c a w, Q (.panic c) (a.put oi.dst v) w → Q (.panic c) a w) (hin : i < n)
    (htail : ∀ j oj, ops[j]? = some oj → n ≤ j → ∃ e ∈ oj.after, Region.binds md e = true ∧ e.on = i) :
    ∀ (fuel : Nat) (listed : Array Bool) (a : Act) (w : World),
      (∀ j oj, ops[j]? = some oj → j ≠ i → listed.getD j true = false → (∀ e ∈ oj.after, Region.binds md e = true → e.on ≠ i) → oi.apart ops oj = true) →
      i ∈ Region.ready md ops listed → YieldsIf P ops S oi v a → S w →
      wpAnyN P md ops Q S n fuel (listed.setIfInBounds i true) (a.put oi.dst v) w → wpAnyN P md ops Q S n (fuel + 1) listed a w := by
  intro fuel
  induction fuel with
  | zero =>
    intro listed a w _ hr hy hS H
    refine ⟨fun h => (by rw [h] at hr; cases hr), fun j hj => ?_⟩
    by_cases hji : j = i
    · subst hji; exact hy.wpOp hi hS ⟨fun _ => hS, H⟩
    · have := ready_mono hj hji
      rw [H.1] at this
      cases this
  | succ fuel ih =>
    intro listed a w hfree hr hy hS H
    refine ⟨fun h => (by rw [h] at hr; cases hr), fun j hj => ?_⟩
    by_cases hji : j = i
    · subst hji; exact hy.wpOp hi hS ⟨fun _ => hS, H⟩
    · have h1 := H.2 j (ready_mono hj hji)
      obtain ⟨hjun, oj, hoj, hall⟩ := mem_ready.1 hj
      have hnot : ∀ e ∈ oj.after, Region.binds md e = true → e.on ≠ i := fun e he hb heq => by
        have h1 := hall e he hb
        have h0 := (mem_ready.1 hr).1
        rw [heq] at h1
        rcases Nat.lt_or_ge i listed.size with h' | h'
        · simp [h'] at h0 h1; rw [h0] at h1; cases h1
        · simp [Array.getElem?_eq_none h'] at h1
      have hjn : j < n := by
        rcases Nat.lt_or_ge j n with h | h
        · exact h
        · obtain ⟨e, he, hb, heq⟩ := htail j oj hoj h
          exact absurd heq (hnot e he hb)
      have h2 := wpOp_putIf hoj (hfree j oj hoj hji hjun hnot) (fun cs b => hsel i oi cs b hi) (fun cs b => hsel j oj cs b hoj) hQ hy h1
      have hfree' : ∀ k ok, ops[k]? = some ok → k ≠ i → (listed.setIfInBounds j true).getD k true = false →
          (∀ e ∈ ok.after, Region.binds md e = true → e.on ≠ i) → oi.apart ops ok = true := fun k ok hk hki hun hno => by
        refine hfree k ok hk hki ?_ hno
        by_cases hjk : j = k
        · subst hjk; exact hjun
        · rw [getD_set_ne true hjk] at hun; exact hun
      refine wpOp_mono (fun a' w' h3 => ⟨h3.2.1, ih (listed.setIfInBounds j true) a' w' hfree' (ready_mono hr (Ne.symm hji)) h3.1 (h3.2.1 hjn) ?_⟩) h2
      rw [Array.setIfInBounds_comm _ _ hji]
      exact h3.2.2

/-- The tail: one order alone. -/
theorem wpAnyN_of_seq : ∀ (l : List Oper) (k : Nat) (listed : Array Bool) (a : Act) (w : World), n ≤ k → (∀ j, l[j]? = ops[k + j]?) →
    Region.seqB md ops l.length k listed = true → wpList P ops Q l a w → wpAnyN P md ops Q S n l.length listed a w
  | [], _, _, _, _, _, _, hB, h => ⟨by simpa [Region.seqB] using hB, h⟩
  | o :: l, k, listed, a, w, hnk, hl, hB, h => by
    have h0 : ops[k]? = some o := by simpa using (hl 0).symm
    simp only [List.length_cons, Region.seqB, Bool.and_eq_true, decide_eq_true_eq] at hB
    refine ⟨fun h1 => (by rw [hB.1] at h1; cases h1), fun i hi => ?_⟩
    rw [hB.1] at hi
    have hik : i = k := by simpa using hi
    subst hik
    have hw : wpOp P ops Q i (wpList P ops Q l) a w := by unfold wpOp; simp only [h0]; exact h
    exact wpOp_mono (fun a' w' h' => ⟨fun h => by omega, wpAnyN_of_seq l (i + 1) _ a' w' (by omega) (fun j => by have := hl (j + 1); simpa [Nat.add_assoc, Nat.add_comm 1 j] using this) hB.2 h'⟩) hw

/-- The plan: true: taken first; false: comes up alone; behind its end: the tail. -/
def wpPlan (P : Program) (ops : Array Oper) (Q : Exit → Act → World → Prop) (S : World → Prop) : List Bool → List Oper → Act → World → Prop
  | [], l, a, w => wpList P ops Q l a w
  | _ :: _, [], _, _ => False
  | true :: fs, o :: l, a, w => ∃ v, YieldsIf P ops S o v a ∧ wpPlan P ops Q S fs l (a.put o.dst v) w
  | false :: fs, o :: l, a, w => (if Region.wanted o (yielded ops a.tmps) then o.wp P a w (fun a' w' => S w' ∧ wpPlan P ops Q S fs l a' w') Q ∨ (o.asks P a w ∧ LetsOut Q) else S w ∧ wpPlan P ops Q S fs l (a.put o.dst undef) w)

def planFrom (md : Region.Mode) (ops : Array Oper) : List Bool → Nat → Array Bool → Bool
  | [], k, listed => Region.seqB md ops (ops.size - k) k listed
  | true :: fs, k, listed => (Region.ready md ops listed).contains k && Region.free md ops listed k && planFrom md ops fs (k + 1) (listed.setIfInBounds k true)
  | false :: fs, k, listed => decide (Region.ready md ops listed = [k]) && planFrom md ops fs (k + 1) (listed.setIfInBounds k true)

def tailB (md : Region.Mode) (ops : Array Oper) (n : Nat) : Bool :=
  (List.range ops.size).all fun j => decide (j < n) || (List.range n).all fun i => Region.waitsFor md ops j i

def planB (md : Region.Mode) (ops : Array Oper) (fs : List Bool) : Bool :=
  Region.noSelect ops && tailB md ops fs.length && decide (fs.length ≤ ops.size) && planFrom md ops fs 0 (Array.replicate ops.size false)

theorem tail_of {j i : Nat} {oj : Oper} (h : tailB md ops n = true) (hj : ops[j]? = some oj) (hn : n ≤ j) (hi : i < n) : ∃ e ∈ oj.after, Region.binds md e = true ∧ e.on = i := by
  have hjs : j < ops.size := (Array.getElem?_eq_some_iff.1 hj).1
  have h1 := List.all_eq_true.1 h j (List.mem_range.2 hjs)
  simp only [Bool.or_eq_true, decide_eq_true_eq] at h1
  rcases h1 with h1 | h1
  · omega
  obtain ⟨oj', hj', e, he, hb, heq⟩ := Region.waitsFor_spec (List.all_eq_true.1 h1 i (List.mem_range.2 hi))
  rw [hj] at hj'
  cases hj'
  exact ⟨e, he, hb, heq⟩

theorem plan_sound (hsel : Region.noSelect ops = true) (htl : tailB md ops n = true) (hQ : ∀ c a a' w, Q (.panic c) a w → Q (.panic c) a' w) : ∀ (fs : List Bool) (l : List Oper) (k : Nat) (listed : Array Bool) (a : Act) (w : World),
    (∀ j, l[j]? = ops[k + j]?) → k + l.length = ops.size → k + fs.length = n → planFrom md ops fs k listed = true → S w → wpPlan P ops Q S fs l a w → wpAnyN P md ops Q S n l.length listed a w
  | [], l, k, listed, a, w, hl, hsz, hn, hB, _, h => by
    have : l.length = ops.size - k := by omega
    exact wpAnyN_of_seq l k listed a w (by simp at hn; omega) hl (by rw [this]; exact hB) h
  | _ :: _, [], _, _, _, _, _, _, _, _, _, h => h.elim
  | true :: fs, o :: l, k, listed, a, w, hl, hsz, hn, hB, hS, h => by
    have h0 : ops[k]? = some o := by simpa using (hl 0).symm
    simp only [planFrom, Bool.and_eq_true] at hB
    obtain ⟨⟨hr, hf⟩, hB⟩ := hB
    obtain ⟨v, hy, h⟩ := h
    simp only [List.length_cons] at hsz hn
    refine wpAnyN_first h0 (Region.noSelect_spec hsel) (fun c a w h => hQ c _ _ w h) (by omega) (fun j oj hj hnj => tail_of htl hj hnj (by omega)) l.length listed a w (Region.free_spec h0 hf) (by simpa using hr) hy hS ?_
    exact plan_sound hsel htl hQ fs l (k + 1) _ _ w (fun j => by have := hl (j + 1); simpa [Nat.add_assoc, Nat.add_comm 1 j] using this) (by omega) (by omega) hB hS h
  | false :: fs, o :: l, k, listed, a, w, hl, hsz, hn, hB, hS, h => by
    have h0 : ops[k]? = some o := by simpa using (hl 0).symm
    simp only [planFrom, Bool.and_eq_true, decide_eq_true_eq] at hB
    obtain ⟨hr, hB⟩ := hB
    simp only [List.length_cons] at hsz hn
    refine ⟨fun h1 => (by rw [hr] at h1; cases h1), fun i hi => ?_⟩
    rw [hr] at hi
    have hik : i = k := by simpa using hi
    subst hik
    have hw : wpOp P ops Q i (fun a' w' => S w' ∧ wpPlan P ops Q S fs l a' w') a w := by unfold wpOp; simp only [h0]; exact h
    exact wpOp_mono (fun a' w' h' => ⟨fun _ => h'.1, plan_sound hsel htl hQ fs l (i + 1) _ a' w' (fun j => by have := hl (j + 1); simpa [Nat.add_assoc, Nat.add_comm 1 j] using this) (by omega) (by omega) hB h'.1 h'.2⟩) hw

/-- THE BEGINNING. -/
theorem wp_region_plan {id : Nat} {a : Act} {w : World} {l : List Oper} (S : World → Prop) (fs : List Bool) (hm : P.follows .mixedOrders = true) (hB : planB .any l.toArray fs = true) (hS : S w.drew)
    (h : wpPlan P l.toArray (NoPanic Q) S fs l a w.drew) : (Code.region id l.toArray true).wp P Q a w := by
  refine wp_region_noPanic (wp_region_any hm ?_)
  simp only [planB, Bool.and_eq_true, decide_eq_true_eq] at hB
  obtain ⟨⟨⟨hsel, htl⟩, _⟩, hp⟩ := hB
  have := plan_sound (P := P) (Q := NoPanic Q) (S := S) hsel htl (fun c a a' w h => (h : False).elim) fs l 0 _ a w.drew (fun j => by simp) (by simp) (by simp) hp hS h
  exact wpAny_of_N (S := S) (n := fs.length) l.length _ _ _ this

theorem plan_take {fs : List Bool} {o : Oper} {l : List Oper} {a : Act} {w : World} {v : Value} (hw : Region.wanted o (yielded ops a.tmps) = true)
    (hy : ∀ w', S w' → (execOp a.eval o).run P w' = .ok (.value v) w') (h : wpPlan P ops Q S fs l (a.put o.dst v) w) : wpPlan P ops Q S (true :: fs) (o :: l) a w :=
  ⟨v, .inl ⟨hw, hy⟩, h⟩
/-- An operation whose guard says no. -/
theorem plan_pass {fs : List Bool} {o : Oper} {l : List Oper} {a : Act} {w : World} (hw : Region.wanted o (yielded ops a.tmps) = false)
    (h : wpPlan P ops Q S fs l (a.put o.dst undef) w) : wpPlan P ops Q S (true :: fs) (o :: l) a w :=
  ⟨undef, .inr ⟨hw, rfl⟩, h⟩
theorem plan_loud {fs : List Bool} {o : Oper} {l : List Oper} {a : Act} {w : World} (hw : Region.wanted o (yielded ops a.tmps) = true)
    (h : ∀ K : Act → World → Prop, (∀ a' w', S w' → wpPlan P ops Q S fs l a' w' → K a' w') → o.wp P a w K Q) : wpPlan P ops Q S (false :: fs) (o :: l) a w := by
  show if _ then _ else _
  rw [if_pos hw]
  exact .inl (h _ fun a' w' h1 h2 => ⟨h1, h2⟩)
theorem plan_tail {l : List Oper} {a : Act} {w : World} (h : wpList P ops Q l a w) : wpPlan P ops Q S [] l a w := h
end
end Go.Proofs.Ytgnndggbjipioaa
