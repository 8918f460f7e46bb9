/- The journal that a script of Appends, Rewrites and Syncs leaves: both areas are as they were written; a changed byte is told. Points of a tale. Plain laws, no program in sight. -/
import Derived.Test.YtdpaaoeipconcaaDoorJDmgP
import Derived.Test.YtdpaaoeipconcaaDoorJTale
namespace Go.Proofs.YtdpaaoeipconcaaDoor

/-- An area as it was written. -/
def Solid (X : List UInt8) : Prop := ∃ g b m, g < 4294967296 ∧ X = areaB g b m ∧ 16 + sizeF (b ++ m) ≤ 1048576 ∧ ∀ r ∈ b ++ m, r.length ≤ 65536

theorem Solid.len {X : List UInt8} (h : Solid X) : 16 ≤ X.length := by
  obtain ⟨g, b, m, _, rfl, _⟩ := h
  rw [areaB_length]; omega
theorem Solid.told {X : List UInt8} (h : Solid X) {k : Nat} {v : UInt8} (hk : k < X.length) (hv : v ≠ X.getD k 0) : readA (X.set k v) = .spoilt := by
  obtain ⟨g, b, m, hg, rfl, hs, hr⟩ := h
  exact read_damaged hg hs hr hk hv

structure DmgJ (j : Jn) : Prop where
  solid : ∀ c, c ≤ 1 → (c = 1 ∧ dk (layAll j.ws (j.dA, j.dB)) c = []) ∨ Solid (dk (layAll j.ws (j.dA, j.dB)) c)
  end_ : (dk (layAll j.ws (j.dA, j.dB)) j.cur).length = j.end_

theorem dmg_begin {j : Jn} (h : openJ ([], []) = some (j, [])) : DmgJ j := by
  have he : readA [] = .short := readA_short (by decide)
  unfold openJ at h
  simp only [he] at h
  have h2 : j = ⟨[], [], [⟨0, 0, headB 1 0⟩], 0, 1, 0, 16⟩ := by simpa [Ar.short] using h.symm
  subst h2
  refine ⟨fun c hc => ?_, by simp [layAll, lay, dk]⟩
  rcases (show c = 0 ∨ c = 1 by omega) with rfl | rfl
  · right
    exact ⟨1, [], [], by decide, by simp [layAll, lay, dk, head_area], by decide, by simp⟩
  · left
    exact ⟨rfl, by simp [layAll, lay, dk]⟩

theorem dmg_append {j : Jn} {R : Recs} (hL : LogOK j R) (h : DmgJ j) {rec : List UInt8} (h1 : rec.length ≤ 65536) (h2 : 16 + sizeF R + 12 + rec.length ≤ 1048576) : DmgJ (appendJ j rec).2 := by
  have he := hL.end_
  have hn := hL.nr
  obtain ⟨hc, ha, _⟩ := hL.cur
  obtain ⟨base, more, hbm, hpre⟩ := ha.pre
  have hap : appendJ j rec = (0, { j with ws := j.ws ++ [⟨j.cur, j.end_, frameB j.gen j.nr rec⟩], end_ := j.end_ + 12 + rec.length, nr := j.nr + 1 }) := by rw [appendJ, if_neg (by omega), if_neg (by omega)]
  rw [hap]
  have hsp : sizeF (R ++ [rec]) = sizeF R + (12 + rec.length) := sizeF_push R rec
  obtain ⟨e1, e2⟩ := dk_lay_cur (layAll j.ws (j.dA, j.dB)) hc j.end_ (frameB j.gen j.nr rec)
  have hX : (dk (layAll j.ws (j.dA, j.dB)) j.cur).take j.end_ ++ frameB j.gen j.nr rec = areaB j.gen base (more ++ [rec]) := by
    rw [he, hpre, hn, areaB, areaB, ← List.append_assoc base, hbm, framesB_push, Nat.zero_add, List.append_assoc]
  rw [hX] at e1
  refine ⟨fun c hc' => ?_, ?_⟩
  · show (c = 1 ∧ dk (layAll (j.ws ++ [_]) (j.dA, j.dB)) c = []) ∨ Solid (dk (layAll (j.ws ++ [_]) (j.dA, j.dB)) c)
    rw [layAll_push]
    by_cases hcc : c = j.cur
    · right
      rw [hcc, e1]
      exact ⟨j.gen, base, more ++ [rec], ha.gen, rfl, by rw [← List.append_assoc, hbm, hsp]; omega, fun r hr => by
        rw [← List.append_assoc, hbm] at hr
        rcases List.mem_append.1 hr with hr | hr
        · exact ha.len r hr
        · obtain rfl : r = rec := by simpa using hr
          exact h1⟩
    · have : c = 1 - j.cur := by omega
      rw [this, e2, ← this]
      exact h.solid c hc'
  · show (dk (layAll (j.ws ++ [_]) (j.dA, j.dB)) j.cur).length = j.end_ + 12 + rec.length
    rw [layAll_push, e1, areaB_length, ← List.append_assoc, hbm, hsp]
    omega

theorem dmg_rewrite {j : Jn} {R : Recs} (hL : LogOK j R) (h : DmgJ j) {recs : Recs} (h1 : ∀ r ∈ recs, r.length ≤ 65536) (h2 : 16 + sizeF recs ≤ 1048576) : DmgJ (rewriteJ j recs).2 := by
  have hc := hL.cur.c1
  have hrw := rewriteJ_ok j recs (fun ⟨r, hr, hl⟩ => by have := h1 r hr; omega) (by omega)
  have hB : headB ((j.gen + 1) % 4294967296) (sizeF recs) ++ framesB ((j.gen + 1) % 4294967296) 0 recs = areaB ((j.gen + 1) % 4294967296) recs [] := by rw [areaB, List.append_nil]
  have hg' : (j.gen + 1) % 4294967296 < 4294967296 := Nat.mod_lt _ (by decide)
  unfold beginJ at hrw
  rw [hB] at hrw
  rw [hrw]
  obtain ⟨e1, e2⟩ := dk_lay_cur (layAll j.ws (j.dA, j.dB)) (show 1 - j.cur ≤ 1 by omega) 0 (areaB ((j.gen + 1) % 4294967296) recs [])
  rw [List.take_zero, List.nil_append] at e1
  have hcc : 1 - (1 - j.cur) = j.cur := by omega
  rw [hcc] at e2
  refine ⟨fun c hc' => ?_, ?_⟩
  · show (c = 1 ∧ dk (layAll (j.ws ++ [_]) (j.dA, j.dB)) c = []) ∨ Solid (dk (layAll (j.ws ++ [_]) (j.dA, j.dB)) c)
    rw [layAll_push]
    by_cases hx : c = 1 - j.cur
    · right
      rw [hx, e1]
      exact ⟨_, recs, [], hg', rfl, by simpa using h2, by simpa using h1⟩
    · have : c = j.cur := by omega
      rw [this, e2, ← this]
      exact h.solid c hc'
  · show (dk (layAll (j.ws ++ [_]) (j.dA, j.dB)) (1 - j.cur)).length = 16 + sizeF recs
    rw [layAll_push, e1, areaB_length, List.append_nil]

theorem dmg_sync {j : Jn} (h : DmgJ j) : DmgJ (syncJ j) := ⟨h.solid, h.end_⟩

/-- A step on a journal. -/
def stepJ (j : Jn) (kind : Int) (one : List UInt8) (many : Recs) : Jn := if kind = 1 then (appendJ j one).2 else if kind = 2 then (rewriteJ j many).2 else if kind = 3 then syncJ j else j

theorem dmg_step {j : Jn} {R : Recs} (hL : LogOK j R) (h : DmgJ j) (kind : Int) (one : List UInt8) (many : Recs) : DmgJ (stepJ j kind one many) := by
  unfold stepJ
  split
  · by_cases h1 : 65536 < one.length
    · rw [appendJ, if_pos h1]; exact h
    · by_cases h2 : 1048576 < j.end_ + 12 + one.length
      · rw [appendJ, if_neg h1, if_pos h2]; exact h
      · exact dmg_append hL h (by omega) (by have := hL.end_; omega)
  · split
    · by_cases h1 : ∃ r ∈ many, 65536 < r.length
      · rw [rewriteJ, if_pos h1]; exact h
      · by_cases h2 : 1048576 < 16 + sizeF many
        · rw [rewriteJ, if_neg h1, if_pos h2]; exact h
        · exact dmg_rewrite hL h (fun r hr => by
            by_cases hl : r.length ≤ 65536
            · exact hl
            · exact absurd ⟨r, hr, by omega⟩ h1) (by omega)
    · split
      · exact dmg_sync h
      · exact h

theorem open_none {d : Dk} (h : readA d.1 = .spoilt ∨ readA d.2 = .spoilt) : openJ d = none := by
  unfold openJ
  rcases h with h | h <;> simp [h, Ar.spoilt]

/-! ### points -/

/-- What a point says of the generations. -/
def PtOK (gs : List Recs) (p : Pt) (h : Recs × Nat) : Prop := p.at_ = h.2 ∧ ∃ G, gs[p.gen]? = some G ∧ p.n ≤ G.length ∧ G.take p.n = h.1

def HistOK (gs : List Recs) (pts : List Pt) (hist : List (Recs × Nat)) : Prop := pts.length = hist.length ∧ ∀ (i : Nat) (p : Pt) (h : Recs × Nat), pts[i]? = some p → hist[i]? = some h → PtOK gs p h

theorem HistOK.nil (gs : List Recs) : HistOK gs [] [] := ⟨rfl, fun i p h e => by simp at e⟩
theorem HistOK.push {gs : List Recs} {pts : List Pt} {hist : List (Recs × Nat)} (h : HistOK gs pts hist) {p : Pt} {x : Recs × Nat} (hx : PtOK gs p x) : HistOK gs (pts ++ [p]) (hist ++ [x]) := by
  refine ⟨by simp [h.1], fun i p' h' e e' => ?_⟩
  by_cases hi : i < pts.length
  · rw [List.getElem?_append_left hi] at e
    rw [List.getElem?_append_left (by rw [← h.1]; exact hi)] at e'
    exact h.2 i p' h' e e'
  · have hl : i = pts.length := by
      have := (List.getElem?_eq_some_iff.1 e).1
      simp at this; omega
    subst hl
    rw [List.getElem?_append_right (Nat.le_refl _)] at e
    rw [h.1, List.getElem?_append_right (Nat.le_refl _)] at e'
    simp at e e'
    rw [← e, ← e']
    exact hx
/-- The last generation grows. -/
theorem HistOK.grow {gs : List Recs} {R E : Recs} {pts : List Pt} {hist : List (Recs × Nat)} (h : HistOK (gs ++ [R]) pts hist) : HistOK (gs ++ [R ++ E]) pts hist := by
  refine ⟨h.1, fun i p x e e' => ?_⟩
  obtain ⟨h1, G, h2, h3, h4⟩ := h.2 i p x e e'
  refine ⟨h1, ?_⟩
  by_cases hp : p.gen < gs.length
  · rw [List.getElem?_append_left hp] at h2
    exact ⟨G, by rw [List.getElem?_append_left hp]; exact h2, h3, h4⟩
  · rw [List.getElem?_append_right (by omega)] at h2
    have hz : p.gen - gs.length = 0 := by
      have := (List.getElem?_eq_some_iff.1 h2).1
      simp at this; omega
    rw [hz] at h2
    simp at h2
    subst h2
    refine ⟨R ++ E, by rw [List.getElem?_append_right (by omega), hz]; rfl, by rw [List.length_append]; omega, ?_⟩
    rw [List.take_append_of_le_length h3]
    exact h4
/-- A generation more. -/
theorem HistOK.next {gs : List Recs} {R : Recs} {pts : List Pt} {hist : List (Recs × Nat)} (h : HistOK gs pts hist) : HistOK (gs ++ [R]) pts hist := by
  refine ⟨h.1, fun i p x e e' => ?_⟩
  obtain ⟨h1, G, h2, h3, h4⟩ := h.2 i p x e e'
  have hp := (List.getElem?_eq_some_iff.1 h2).1
  exact ⟨h1, G, by rw [List.getElem?_append_left hp]; exact h2, h3, h4⟩
end Go.Proofs.YtdpaaoeipconcaaDoor
