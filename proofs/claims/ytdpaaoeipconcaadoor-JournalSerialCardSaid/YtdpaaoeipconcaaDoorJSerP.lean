/- Generation after generation, round the end of the counting too: the plain part of JournalSerial. No program in sight. -/
import Derived.Test.YtdpaaoeipconcaaDoorJArea
namespace Go.Proofs.YtdpaaoeipconcaaDoor

/-- The area that the i-th generation behind gen leaves. -/
def serA (gen : Nat) (rec : List UInt8) (i : Nat) : List UInt8 := if i = 0 then areaB gen [] [] else areaB ((gen + i) % 4294967296) [[UInt8.ofNat i]] [rec]
def serR (rec : List UInt8) (i : Nat) : List (List UInt8) := if i = 0 then [] else [[UInt8.ofNat i], rec]

/-- The disk then: one area has the i-th generation, the other the one ahead (none: nothing). -/
def Ser (gen : Nat) (rec : List UInt8) (i : Nat) (d : Dk) : Prop :=
  (d.1 = serA gen rec i ∧ (i = 0 ∧ d.2 = [] ∨ 0 < i ∧ d.2 = serA gen rec (i - 1))) ∨ (0 < i ∧ d.2 = serA gen rec i ∧ d.1 = serA gen rec (i - 1))

theorem ser_read {gen : Nat} {rec : List UInt8} (hg : gen < 4294967296) (hl : rec.length ≤ 60000) (i : Nat) : ∃ e, readA (serA gen rec i) = ⟨3, (gen + i) % 4294967296, serR rec i, e⟩ ∧ e = (serA gen rec i).length ∧ (serA gen rec i).length ≤ 100000 := by
  unfold serA serR
  by_cases h : i = 0
  · subst h
    simp only [if_true]
    have hr := readA_whole (g := gen) (base := []) (more := []) hg (by decide) (by simp)
    have hlen := areaB_length gen [] []
    refine ⟨_, hr.trans ?_, hlen.symm, by rw [hlen]; decide⟩
    simp [Nat.mod_eq_of_lt hg]
  · simp only [if_neg h]
    have hs : 16 + sizeF ([[UInt8.ofNat i]] ++ [rec]) = 41 + rec.length := by simp [sizeF]; omega
    have hr := readA_whole (g := (gen + i) % 4294967296) (base := [[UInt8.ofNat i]]) (more := [rec]) (Nat.mod_lt _ (by decide)) (by rw [hs]; omega) (by simp; omega)
    have hlen := areaB_length ((gen + i) % 4294967296) [[UInt8.ofNat i]] [rec]
    exact ⟨_, hr, hlen.symm, by rw [hlen, hs]; omega⟩

theorem ser_lay (g : Nat) (b : UInt8) (rec : List UInt8) : (headB g (sizeF [[b]]) ++ framesB g 0 [[b]]).take 29 ++ frameB g 1 rec = areaB g [[b]] [rec] := by
  have hl : (headB g (sizeF [[b]]) ++ framesB g 0 [[b]]).length = 29 := by rw [List.length_append, headB_length, framesB_length]; rfl
  rw [List.take_of_length_le (by omega), areaB, List.append_assoc]
  congr 1
  rw [framesB_append]
  simp [framesB]

/-- One round: what is opened, and the disk behind it. -/
theorem ser_round {gen : Nat} {rec : List UInt8} (hg : gen < 4294967296) (hl : rec.length ≤ 60000) {i : Nat} {d : Dk} (h : Ser gen rec i d) :
    ∃ j j1 j2, openJ d = some (j, serR rec i) ∧ rewriteJ j [[UInt8.ofNat (i + 1)]] = (0, j1) ∧ appendJ j1 rec = (0, j2) ∧ j1.ws.length ≤ 1 ∧ j2.ws.length ≤ 2 ∧ Ser gen rec (i + 1) ((syncJ j2).dA, (syncJ j2).dB) := by
  have hsz : sizeF [[UInt8.ofNat (i + 1)]] = 13 := by simp [sizeF]
  obtain ⟨e, he, _, hle⟩ := ser_read hg hl i
  have hgg : ((gen + i) % 4294967296 + 1) % 4294967296 = (gen + (i + 1)) % 4294967296 := by omega
  -- what Open answers: the area c
  have key : ∀ c, c ≤ 1 → (if c = 0 then d.1 else d.2) = serA gen rec i → ((if c = 0 then d.2 else d.1) = [] ∧ i = 0 ∨ 0 < i ∧ (if c = 0 then d.2 else d.1) = serA gen rec (i - 1)) →
      openJ d = some (⟨d.1, d.2, [], c, (gen + i) % 4294967296, (serR rec i).length, e⟩, serR rec i) →
      ∃ j j1 j2, openJ d = some (j, serR rec i) ∧ rewriteJ j [[UInt8.ofNat (i + 1)]] = (0, j1) ∧ appendJ j1 rec = (0, j2) ∧ j1.ws.length ≤ 1 ∧ j2.ws.length ≤ 2 ∧ Ser gen rec (i + 1) ((syncJ j2).dA, (syncJ j2).dB) := by
    intro c hc hcur _ hop
    obtain ⟨g', hg'⟩ : ∃ g', g' = (gen + (i + 1)) % 4294967296 := ⟨_, rfl⟩
    rw [← hg'] at hgg
    have hrw : rewriteJ ⟨d.1, d.2, [], c, (gen + i) % 4294967296, (serR rec i).length, e⟩ [[UInt8.ofNat (i + 1)]] =
        (0, ⟨d.1, d.2, [⟨1 - c, 0, headB g' (sizeF [[UInt8.ofNat (i + 1)]]) ++ framesB g' 0 [[UInt8.ofNat (i + 1)]]⟩], 1 - c, g', 1, 29⟩) := by
      rw [rewriteJ_ok _ _ (by simp) (by rw [hsz]; omega)]
      simp only [beginJ, hgg, hsz, List.nil_append]
      rfl
    have hap : appendJ ⟨d.1, d.2, [⟨1 - c, 0, headB g' (sizeF [[UInt8.ofNat (i + 1)]]) ++ framesB g' 0 [[UInt8.ofNat (i + 1)]]⟩], 1 - c, g', 1, 29⟩ rec =
        (0, ⟨d.1, d.2, [⟨1 - c, 0, headB g' (sizeF [[UInt8.ofNat (i + 1)]]) ++ framesB g' 0 [[UInt8.ofNat (i + 1)]]⟩, ⟨1 - c, 29, frameB g' 1 rec⟩], 1 - c, g', 2, 29 + 12 + rec.length⟩) := by
      rw [appendJ, if_neg (by omega), if_neg (by show ¬ 1048576 < 29 + 12 + rec.length; omega)]
      rfl
    refine ⟨_, _, _, hop, hrw, hap, by simp, by simp, ?_⟩
    have hA : serA gen rec (i + 1) = areaB g' [[UInt8.ofNat (i + 1)]] [rec] := by rw [serA, if_neg (by omega), hg']
    have hlay := ser_lay g' (UInt8.ofNat (i + 1)) rec
    unfold Ser
    rw [Nat.add_sub_cancel, hA]
    rcases (show c = 0 ∨ c = 1 by omega) with rfl | rfl
    · right
      simp only [syncJ, layAll, List.foldl, lay]
      simp only [if_true] at hcur
      refine ⟨by omega, ?_, hcur⟩
      simpa using hlay
    · left
      simp only [syncJ, layAll, List.foldl, lay]
      simp only [if_neg (show ¬ (1 = 0) by omega)] at hcur
      refine ⟨?_, .inr ⟨by omega, hcur⟩⟩
      simpa using hlay
  rcases h with ⟨h1, h2⟩ | ⟨hi, h2, h1⟩
  · refine key 0 (by omega) h1 (by rcases h2 with ⟨a, b⟩ | ⟨a, b⟩; exact .inl ⟨b, a⟩; exact .inr ⟨a, b⟩) ?_
    unfold openJ
    rw [h1]
    rcases h2 with ⟨hi, h2⟩ | ⟨hi, h2⟩
    · rw [h2]
      simp only [he, readA_short (show ([] : List UInt8).length < 16 by decide), Ar.short]
      simp
    · obtain ⟨e', he', _, _⟩ := ser_read hg hl (i - 1)
      rw [h2]
      simp only [he, he']
      have hd : ((gen + i) % 4294967296 + 4294967296 - (gen + (i - 1)) % 4294967296) % 4294967296 = 1 := by omega
      rw [hd]
      simp
  · obtain ⟨e', he', _, _⟩ := ser_read hg hl (i - 1)
    refine key 1 (by omega) (by simpa using h2) (.inr ⟨hi, by simpa using h1⟩) ?_
    unfold openJ
    rw [h1, h2]
    simp only [he, he']
    have hd : ((gen + (i - 1)) % 4294967296 + 4294967296 - (gen + i) % 4294967296) % 4294967296 = 4294967295 := by omega
    rw [hd]
    simp

theorem ser_start (gen : Nat) (rec : List UInt8) : Ser gen rec 0 (headB gen 0, []) := .inl ⟨by simp [serA, areaB, sizeF, framesB], .inl ⟨rfl, rfl⟩⟩
end Go.Proofs.YtdpaaoeipconcaaDoor
