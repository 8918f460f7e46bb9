/- What Rewrite writes: the frames in a row, their lengths; a journal behind it. Plain laws, no program in sight. -/
import Derived.Test.YtdpaaoeipconcaaDoorJRSync
namespace Go.Proofs.YtdpaaoeipconcaaDoor

theorem framesB_push (gen : Nat) (r : List UInt8) : ∀ (rs : List (List UInt8)) (i : Nat), framesB gen i (rs ++ [r]) = framesB gen i rs ++ frameB gen (i + rs.length) r
  | [], i => by simp [framesB]
  | x :: rs, i => by
    rw [List.cons_append, framesB, framesB, framesB_push gen r rs (i + 1), List.append_assoc, List.length_cons, show i + 1 + rs.length = i + (rs.length + 1) by omega]
theorem framesB_take (gen : Nat) (rs : List (List UInt8)) {k : Nat} (h : k < rs.length) : framesB gen 0 (rs.take (k + 1)) = framesB gen 0 (rs.take k) ++ frameB gen k rs[k] := by
  rw [List.take_succ_eq_append_getElem h, framesB_push, Nat.zero_add, List.length_take, Nat.min_eq_left (Nat.le_of_lt h)]
theorem framesB_length (gen : Nat) : ∀ (rs : List (List UInt8)) (i : Nat), (framesB gen i rs).length = sizeF rs
  | [], _ => rfl
  | r :: rs, i => by
    rw [framesB, List.length_append, framesB_length gen rs (i + 1), frameB_length]
    simp [sizeF]
theorem sizeF_push (rs : List (List UInt8)) (r : List UInt8) : sizeF (rs ++ [r]) = sizeF rs + (12 + r.length) := by simp [sizeF]
theorem sizeF_take (rs : List (List UInt8)) {k : Nat} (h : k < rs.length) : sizeF (rs.take (k + 1)) = sizeF (rs.take k) + (12 + rs[k].length) := by
  rw [List.take_succ_eq_append_getElem h, sizeF_push]
theorem sizeF_le (rs : List (List UInt8)) (M : Nat) (h : ∀ r ∈ rs, r.length ≤ M) : sizeF rs ≤ (12 + M) * rs.length := by
  induction rs with
  | nil => simp [sizeF]
  | cons r rs ih =>
    have h1 := h r (List.mem_cons_self ..)
    have h2 := ih fun x hx => h x (List.mem_cons_of_mem _ hx)
    simp only [sizeF, List.map_cons, List.sum_cons, List.length_cons, Nat.mul_add, Nat.mul_one] at h2 ⊢
    omega
theorem sizeF_append (a b : List (List UInt8)) : sizeF (a ++ b) = sizeF a + sizeF b := by simp [sizeF]
theorem sizeF_mono (rs : List (List UInt8)) (k : Nat) : sizeF (rs.take k) ≤ sizeF rs := by
  have h := sizeF_append (rs.take k) (rs.drop k)
  rw [List.take_append_drop] at h
  omega
theorem sizeF_num (rs : List (List UInt8)) : 12 * rs.length ≤ sizeF rs := by
  induction rs with
  | nil => simp [sizeF]
  | cons r rs ih =>
    simp only [sizeF, List.map_cons, List.sum_cons, List.length_cons] at ih ⊢
    omega

/-- The journal behind the beginning of a generation in the current area. -/
def beginJ (j : Jn) (gen : Nat) (recs : List (List UInt8)) : Jn :=
  { j with ws := j.ws ++ [⟨j.cur, 0, headB gen (sizeF recs) ++ framesB gen 0 recs⟩], gen := gen, nr := recs.length, end_ := 16 + sizeF recs }

theorem rewriteJ_ok (j : Jn) (recs : List (List UInt8)) (h1 : ¬ ∃ r ∈ recs, 65536 < r.length) (h2 : ¬ 1048576 < 16 + sizeF recs) : rewriteJ j recs = (0, beginJ { j with cur := 1 - j.cur } ((j.gen + 1) % 4294967296) recs) := by
  rw [rewriteJ, if_neg h1, if_neg h2]
  rfl

theorem good_rewrite {j : Jn} {recs : List (List UInt8)} (h : Good j) (h2 : ¬ 1048576 < 16 + sizeF recs) : Good (beginJ { j with cur := 1 - j.cur } ((j.gen + 1) % 4294967296) recs) := by
  have hn := sizeF_num recs
  have hl : (headB ((j.gen + 1) % 4294967296) (sizeF recs) ++ framesB ((j.gen + 1) % 4294967296) 0 recs).length = 16 + sizeF recs := by rw [List.length_append, headB_length, framesB_length]
  refine ⟨by show 1 - j.cur ≤ 1; omega, by show (j.gen + 1) % 4294967296 < 4294967296; omega, by show 16 + 12 * recs.length ≤ 16 + sizeF recs; omega, by show 16 + sizeF recs ≤ 1048576; omega, ?_, h.la, h.lb, fun x hx => ?_, ?_⟩
  · exact fits_push _ (by show 1 - j.cur ≤ 1; omega) (by intro e; rw [show headB ((j.gen + 1) % 4294967296) (sizeF recs) ++ framesB ((j.gen + 1) % 4294967296) 0 recs = [] from e] at hl; simp at hl; omega) j.ws _ h.fits (Nat.zero_le _)
  · rcases List.mem_append.1 hx with hx | hx
    · exact h.wl x hx
    · obtain rfl : x = _ := by simpa using hx
      show 0 + (headB ((j.gen + 1) % 4294967296) (sizeF recs) ++ framesB ((j.gen + 1) % 4294967296) 0 recs).length ≤ 1048576
      rw [hl]
      omega
  · show 16 + sizeF recs ≤ (if 1 - j.cur = 0 then (layAll (j.ws ++ [_]) (j.dA, j.dB)).1 else (layAll (j.ws ++ [_]) (j.dA, j.dB)).2).length
    rw [layAll_push]
    unfold lay
    rcases Nat.le_one_iff_eq_zero_or_eq_one.1 h.cur with hc | hc <;> simp only [hc] <;> simp <;> rw [framesB_length] <;> omega
end Go.Proofs.YtdpaaoeipconcaaDoor
