/- A synced area that lost its end: the plain part of JournalCut. No program in sight. -/
import Derived.Test.YtdpaaoeipconcaaDoorJFirst
import Derived.Test.YtdpaaoeipconcaaDoorJUtil
namespace Go.Proofs.YtdpaaoeipconcaaDoor

/-- A journal behind a Rewrite of bs and k Appends of ms, on an empty disk. -/
def CutJ (bs ms : List (List UInt8)) (k : Nat) (j : Jn) : Prop :=
  j.cur = 1 ∧ j.gen = 2 ∧ j.nr = bs.length + k ∧ j.end_ = 16 + sizeF (bs ++ ms.take k) ∧ layAll j.ws (j.dA, j.dB) = (headB 1 0, areaB 2 bs (ms.take k)) ∧ j.ws.length ≤ 3 + k

theorem cut_begin {bs ms : List (List UInt8)} (hb : sizeF bs ≤ 2000) : ∃ j, rewriteJ exJ0 bs = (0, j) ∧ CutJ bs ms 0 j := by
  refine ⟨_, rewriteJ_ok exJ0 bs (fun ⟨r, hr, hl⟩ => by have := size_mem hb r hr; omega) (by omega), rfl, rfl, rfl, by simp [beginJ], ?_, by simp [beginJ, exJ0]⟩
  simp only [beginJ, exJ0, layAll, List.cons_append, List.nil_append, List.foldl, lay]
  simp [areaB]

theorem cut_step {bs ms : List (List UInt8)} {k : Nat} {j : Jn} (hb : sizeF bs ≤ 2000) (hm : sizeF ms ≤ 4000) (hk : k < ms.length) (h : CutJ bs ms k j) : ∃ j', appendJ j ms[k] = (0, j') ∧ CutJ bs ms (k + 1) j' := by
  obtain ⟨h1, h2, h3, h4, h5, h6⟩ := h
  have hl := size_mem hm ms[k] (List.getElem_mem hk)
  have hs1 := sizeF_append bs (ms.take k)
  have hs2 := sizeF_mono ms (k + 1)
  have hs3 := sizeF_take ms hk
  have hs4 := sizeF_append bs (ms.take (k + 1))
  have hap : appendJ j ms[k] = (0, { j with ws := j.ws ++ [⟨j.cur, j.end_, frameB j.gen j.nr ms[k]⟩], end_ := j.end_ + 12 + ms[k].length, nr := j.nr + 1 }) := by rw [appendJ, if_neg (by omega), if_neg (by omega)]
  refine ⟨_, hap, h1, h2, by show j.nr + 1 = bs.length + (k + 1); omega, by show j.end_ + 12 + ms[k].length = 16 + sizeF (bs ++ ms.take (k + 1)); omega, ?_, by simp; omega⟩
  show layAll (j.ws ++ [_]) (j.dA, j.dB) = _
  rw [layAll_push, h5]
  unfold lay
  simp only [h1]
  have hla := areaB_length 2 bs (ms.take k)
  rw [if_neg (by omega), h4, List.take_of_length_le (by omega), h2, h3]
  congr 1
  rw [areaB, areaB, List.append_assoc]
  congr 1
  rw [List.take_succ_eq_append_getElem hk, ← List.append_assoc, framesB_push]
  congr 2
  simp
  omega

theorem cut_sync {bs ms : List (List UInt8)} {j : Jn} (h : CutJ bs ms ms.length j) : crashJ (syncJ j) 0 = (headB 1 0, areaB 2 bs ms) := by
  obtain ⟨h1, h2, h3, h4, h5, h6⟩ := h
  rw [List.take_length] at h5
  show ((syncJ j).dA, (syncJ j).dB) = _
  simp only [syncJ, h5]

/-- What a disk with a cut area opens as. -/
theorem cut_open {bs ms : List (List UInt8)} {n : Nat} (hb : sizeF bs ≤ 2000) (hm : sizeF ms ≤ 4000) (hn : n ≤ 16 + sizeF (bs ++ ms)) :
    (n < 16 ∧ ∃ j, openJ ([], (areaB 2 bs ms).take n) = some (j, []) ∧ dirtyN j.ws = 16 ∧ j.ws.length ≤ 1) ∨
    (16 ≤ n ∧ n < 16 + sizeF bs ∧ openJ ([], (areaB 2 bs ms).take n) = none) ∨
    (16 + sizeF bs ≤ n ∧ ∃ m j, m ≤ ms.length ∧ openJ ([], (areaB 2 bs ms).take n) = some (j, bs ++ ms.take m) ∧ j.ws = [] ∧ j.end_ = 16 + sizeF (bs ++ ms.take m) ∧ 16 + sizeF (bs ++ ms.take m) ≤ n ∧ (m = ms.length ∨ (m < ms.length ∧ n < 16 + sizeF (bs ++ ms.take (m + 1))))) := by
  have hs := sizeF_append bs ms
  have hal := areaB_length 2 bs ms
  have he : readA [] = .short := readA_short (by decide)
  by_cases h1 : n < 16
  · left
    refine ⟨h1, ⟨[], (areaB 2 bs ms).take n, [⟨0, 0, headB 1 0⟩], 0, 1, 0, 16⟩, ?_, ?_, ?_⟩
    · have hx : readA ((areaB 2 bs ms).take n) = .short := readA_short (by simp; omega)
      unfold openJ
      simp only [he, hx]
      rfl
    · rfl
    · simp
  · right
    by_cases h2 : n < 16 + sizeF bs
    · left
      refine ⟨by omega, h2, ?_⟩
      have hx : readA ((areaB 2 bs ms).take n) = .torn := readA_torn (by decide) (by omega) (by omega) h2
      unfold openJ
      simp only [he, hx]
      rfl
    · right
      refine ⟨by omega, ?_⟩
      -- how many whole frames
      obtain ⟨m, hm1, hm2, hm3⟩ : ∃ m, m ≤ ms.length ∧ 16 + sizeF (bs ++ ms.take m) ≤ n ∧ (m = ms.length ∨ (m < ms.length ∧ n < 16 + sizeF (bs ++ ms.take (m + 1)))) := by
        have key : ∀ d, d ≤ ms.length → (∃ m, m ≤ ms.length ∧ 16 + sizeF (bs ++ ms.take m) ≤ n ∧ (m = ms.length ∨ (m < ms.length ∧ n < 16 + sizeF (bs ++ ms.take (m + 1))))) ∨ 16 + sizeF (bs ++ ms.take d) ≤ n := by
          intro d
          induction d with
          | zero => intro _; right; simp; omega
          | succ d ih =>
            intro hd
            rcases ih (by omega) with h | h
            · exact .inl h
            · by_cases hx : 16 + sizeF (bs ++ ms.take (d + 1)) ≤ n
              · exact .inr hx
              · exact .inl ⟨d, by omega, h, .inr ⟨by omega, by omega⟩⟩
        rcases key ms.length (Nat.le_refl _) with h | h
        · exact h
        · exact ⟨ms.length, Nat.le_refl _, h, .inl rfl⟩
      have hx : readA ((areaB 2 bs ms).take n) = ⟨3, 2, bs ++ ms.take m, 16 + sizeF (bs ++ ms.take m)⟩ := by
        have h := readA_cut (g := 2) (n := n) (base := bs) (m1 := ms.take m) (m2 := ms.drop m) (by decide) (by rw [List.take_append_drop]; omega) (fun r hr => by
          rw [List.take_append_drop] at hr
          rcases List.mem_append.1 hr with hr | hr
          · have := size_mem hb r hr; omega
          · have := size_mem hm r hr; omega) hm2 (fun r rs hd => by
          rcases hm3 with h | ⟨h, h'⟩
          · rw [h, List.drop_length] at hd; cases hd
          · rw [List.drop_eq_getElem_cons h] at hd
            injection hd with hd _
            have e1 := sizeF_append bs (ms.take (m + 1))
            have e2 := sizeF_append bs (ms.take m)
            have e3 := sizeF_take ms h
            rw [← hd]
            omega)
        rwa [List.take_append_drop] at h
      refine ⟨m, ⟨[], (areaB 2 bs ms).take n, [], 1, 2, (bs ++ ms.take m).length, 16 + sizeF (bs ++ ms.take m)⟩, hm1, ?_, rfl, rfl, hm2, hm3⟩
      unfold openJ
      simp only [he, hx]
      rfl
end Go.Proofs.YtdpaaoeipconcaaDoor
