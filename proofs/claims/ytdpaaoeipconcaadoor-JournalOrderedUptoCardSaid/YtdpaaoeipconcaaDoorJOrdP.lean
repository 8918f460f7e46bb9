/- Frames that changed places, or one missing ahead of others: the plain part of JournalOrdered. No program in sight. -/
import Derived.Test.YtdpaaoeipconcaaDoorJDmgP
import Derived.Test.YtdpaaoeipconcaaDoorJUtil
namespace Go.Proofs.YtdpaaoeipconcaaDoor

/-- A journal behind k Appends of recs, on an empty disk. -/
def OrdJ (recs : List (List UInt8)) (k : Nat) (j : Jn) : Prop :=
  j.cur = 0 ∧ j.gen = 1 ∧ j.nr = k ∧ j.end_ = 16 + sizeF (recs.take k) ∧ layAll j.ws (j.dA, j.dB) = (areaB 1 [] (recs.take k), []) ∧ j.ws.length ≤ 1 + k

theorem ord_begin (recs : List (List UInt8)) : OrdJ recs 0 exJ0 := by
  refine ⟨rfl, rfl, rfl, by simp [exJ0, sizeF], ?_, by simp [exJ0]⟩
  simp only [exJ0, layAll, List.foldl, lay]
  simp [areaB, sizeF, framesB]

theorem ord_step {recs : List (List UInt8)} {k : Nat} {j : Jn} (hr : ∀ r ∈ recs, r.length ≤ 65536) (hs : 16 + sizeF recs ≤ 100000) (hk : k < recs.length) (h : OrdJ recs k j) : ∃ j', appendJ j recs[k] = (0, j') ∧ OrdJ recs (k + 1) j' := by
  obtain ⟨h1, h2, h3, h4, h5, h6⟩ := h
  have hl := hr recs[k] (List.getElem_mem hk)
  have hs2 := sizeF_mono recs (k + 1)
  have hs3 := sizeF_take recs hk
  have hap : appendJ j recs[k] = (0, { j with ws := j.ws ++ [⟨j.cur, j.end_, frameB j.gen j.nr recs[k]⟩], end_ := j.end_ + 12 + recs[k].length, nr := j.nr + 1 }) := by rw [appendJ, if_neg (by omega), if_neg (by omega)]
  refine ⟨_, hap, h1, h2, by show j.nr + 1 = k + 1; omega, by show j.end_ + 12 + recs[k].length = 16 + sizeF (recs.take (k + 1)); omega, ?_, by simp; omega⟩
  show layAll (j.ws ++ [_]) (j.dA, j.dB) = _
  rw [layAll_push, h5]
  unfold lay
  simp only [h1]
  have hla := areaB_length 1 [] (recs.take k)
  rw [List.nil_append] at hla
  rw [if_pos trivial, h4, List.take_of_length_le (by omega), h2, h3]
  congr 1
  rw [areaB, areaB, List.append_assoc]
  congr 1
  rw [List.nil_append, List.nil_append, List.take_succ_eq_append_getElem hk, framesB_push, List.length_take, Nat.min_eq_left (by omega), Nat.zero_add]

theorem ord_sync {recs : List (List UInt8)} {j : Jn} (h : OrdJ recs recs.length j) : crashJ (syncJ j) 0 = (areaB 1 [] recs, []) := by
  obtain ⟨h1, h2, h3, h4, h5, h6⟩ := h
  rw [List.take_length] at h5
  show ((syncJ j).dA, (syncJ j).dB) = _
  simp only [syncJ, h5]

/-- An area at a frame. -/
theorem area_split {recs : List (List UInt8)} {i : Nat} (hi : i < recs.length) :
    (areaB 1 [] recs).take (16 + sizeF (recs.take i)) = headB 1 0 ++ framesB 1 0 (recs.take i) ∧ ∃ R, (areaB 1 [] recs).drop (16 + sizeF (recs.take i)) = frameB 1 i recs[i] ++ R := by
  have hsp : recs = recs.take i ++ recs[i] :: recs.drop (i + 1) := by rw [List.getElem_cons_drop, List.take_append_drop]
  have hml : (recs.take i).length = i := by rw [List.length_take]; omega
  have hX : areaB 1 [] recs = (headB 1 0 ++ framesB 1 0 (recs.take i)) ++ (frameB 1 i recs[i] ++ framesB 1 (i + 1) (recs.drop (i + 1))) := by
    rw [areaB, List.nil_append, List.append_assoc]
    congr 1
    conv => lhs; rw [hsp]
    rw [framesB_append, hml, Nat.zero_add, framesB]
  have hl : (headB 1 0 ++ framesB 1 0 (recs.take i)).length = 16 + sizeF (recs.take i) := by rw [List.length_append, headB_length, framesB_length]
  rw [hX]
  exact ⟨List.take_left' hl, ⟨_, List.drop_left' hl⟩⟩

theorem open_spoilt {X : List UInt8} (h : readA X = .spoilt) : openJ (X, []) = none := by
  unfold openJ
  simp only [h]
  rfl

theorem ord_turned {recs : List (List UInt8)} {i j pi pj ej : Nat} {rj : List UInt8} (hr : ∀ r ∈ recs, r.length ≤ 65536) (hs : 16 + sizeF recs ≤ 100000) (hij : i < j) (hj : j < recs.length) (hrj : recs[j]? = some rj) (hpi : pi = 16 + sizeF (recs.take i)) (hpj : pj = 16 + sizeF (recs.take j)) (hej : ej = pj + 12 + rj.length) (T : List UInt8) :
    openJ ((areaB 1 [] recs).take pi ++ (((areaB 1 [] recs).drop pj).take (ej - pj) ++ T), []) = none := by
  have hn := sizeF_num recs
  obtain ⟨e1, _⟩ := area_split (recs := recs) (i := i) (by omega)
  obtain ⟨_, R, e2⟩ := area_split (recs := recs) (i := j) hj
  rw [List.getElem?_eq_getElem hj] at hrj
  have hrj' := Option.some.inj hrj
  have hl := hr _ (List.getElem_mem hj)
  rw [hrj'] at e2 hl
  have ht : (frameB 1 j rj ++ R).take (ej - pj) = frameB 1 j rj := List.take_left' (by rw [frameB_length]; omega)
  rw [hpi, e1, hpj, e2, ← hpj, ht, List.append_assoc]
  have hml : (recs.take i).length = i := by rw [List.length_take]; omega
  exact open_spoilt (read_wrong (g := 1) (k := j) (rs := recs.take i) (rec := rj) (R := T) (by decide) (fun r h => hr r (List.mem_of_mem_take h)) hl (by omega) (by omega) (by omega))

theorem ord_gone {recs : List (List UInt8)} {i j pi ei : Nat} {ri : List UInt8} (hr : ∀ r ∈ recs, r.length ≤ 65536) (hs : 16 + sizeF recs ≤ 100000) (hij : i < j) (hj : j < recs.length) (hri : recs[i]? = some ri) (hpi : pi = 16 + sizeF (recs.take i)) (hei : ei = pi + 12 + ri.length) :
    openJ ((areaB 1 [] recs).take pi ++ (areaB 1 [] recs).drop ei, []) = none := by
  have hn := sizeF_num recs
  have hi : i < recs.length := by omega
  have h3 := sizeF_take recs hi
  obtain ⟨e1, _⟩ := area_split (recs := recs) (i := i) hi
  have hi1 : i + 1 < recs.length := by omega
  obtain ⟨_, R, e2⟩ := area_split (recs := recs) (i := i + 1) hi1
  rw [List.getElem?_eq_getElem hi] at hri
  have hri' := Option.some.inj hri
  have hl := hr _ (List.getElem_mem hi1)
  rw [hri'] at h3
  generalize recs[i + 1] = rn at *
  rw [hpi, e1, show ei = 16 + sizeF (recs.take (i + 1)) by omega, e2, List.append_assoc]
  have hml : (recs.take i).length = i := by rw [List.length_take]; omega
  exact open_spoilt (read_wrong (g := 1) (k := i + 1) (rs := recs.take i) (rec := rn) (R := R) (by decide) (fun r h => hr r (List.mem_of_mem_take h)) hl (by omega) (by omega) (by omega))

theorem ord_open {recs : List (List UInt8)} (hr : ∀ r ∈ recs, r.length ≤ 65536) (hs : 16 + sizeF recs ≤ 100000) : ∃ j, openJ (areaB 1 [] recs, []) = some (j, recs) := by
  have h := readA_whole (g := 1) (base := []) (more := recs) (by decide) (by rw [List.nil_append]; omega) (by simpa using hr)
  rw [List.nil_append] at h
  unfold openJ
  simp only [h, readA_short (show ([] : List UInt8).length < 16 by decide), Ar.short]
  simp
end Go.Proofs.YtdpaaoeipconcaaDoor
