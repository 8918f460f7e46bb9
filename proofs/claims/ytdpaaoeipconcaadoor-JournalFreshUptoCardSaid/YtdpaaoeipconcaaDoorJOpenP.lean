/- What an opened journal is like: the plain part of Open. No program in sight. -/
import Derived.Test.YtdpaaoeipconcaaDoorJAppend
namespace Go.Proofs.YtdpaaoeipconcaaDoor

/-- What is known of an area that was read. -/
def ArOk (b : List UInt8) (gen : Nat) (r : Ar) : Prop := (r.state = 3 → r.end_ ≤ b.length ∧ 16 + 12 * r.recs.length ≤ r.end_ ∧ r.gen = gen) ∧ (r.state = 1 ∨ r.state = 3)

theorem arOk_spoilt (b : List UInt8) (gen : Nat) : ArOk b gen .spoilt := ⟨fun h => by simp [Ar.spoilt] at h, .inl rfl⟩

theorem scanL_ok (b : List UInt8) (gen base : Nat) (recs : List (List UInt8)) (e : Nat) (met : Bool) (he : e ≤ b.length) (hc : 16 + 12 * recs.length ≤ e) : ArOk b gen (scanL b gen base recs e met) := by
  have hend : ArOk b gen (if met then ⟨3, gen, recs, e⟩ else .spoilt) := by
    split
    · exact ⟨fun _ => ⟨he, hc, rfl⟩, .inr rfl⟩
    · exact arOk_spoilt b gen
  rw [scanL]
  split
  · split
    · exact arOk_spoilt b gen
    · split
      · exact hend
      · split
        · exact arOk_spoilt b gen
        · exact scanL_ok b gen base _ _ _ (by omega) (by simp; omega)
  · exact hend
termination_by b.length - e
decreasing_by omega

theorem readA_ok (b : List UInt8) : ((readA b).state = 3 → (readA b).end_ ≤ b.length ∧ 16 + 12 * (readA b).recs.length ≤ (readA b).end_ ∧ (readA b).gen < 4294967296) ∧ ((readA b).state ≠ 1 → b.length ≤ 1048576) ∧ (readA b).state ≤ 3 := by
  rw [readA]
  split
  · exact ⟨fun h => by simp [Ar.short] at h, fun _ => by omega, by simp [Ar.short]⟩
  · split
    · exact ⟨fun h => by simp [Ar.spoilt] at h, fun h => absurd rfl h, by simp [Ar.spoilt]⟩
    · rename_i h16 hsp
      have hbl : b.length ≤ 1048576 := Nat.le_of_not_lt fun h => hsp (.inl h)
      split
      · exact ⟨fun h => by simp [Ar.torn] at h, fun _ => hbl, by simp [Ar.torn]⟩
      · have h := scanL_ok b (num b 4) (16 + num b 8) [] 16 (decide (16 = 16 + num b 8)) (by omega) (by simp)
        refine ⟨fun h3 => ?_, fun _ => hbl, ?_⟩
        · obtain ⟨a, b', c⟩ := h.1 h3
          refine ⟨a, b', ?_⟩
          rw [c]
          exact num_lt b 4
        · rcases h.2 with h | h <;> omega

theorem good_open {d : Dk} {j : Jn} {recs : List (List UInt8)} (h : openJ d = some (j, recs)) : Good j := by
  obtain ⟨a1, a2, _⟩ := readA_ok d.1
  obtain ⟨b1, b2, _⟩ := readA_ok d.2
  unfold openJ at h
  simp only at h
  split at h
  · simp at h
  · rename_i hsp
    have la := a2 fun e => hsp (.inl e)
    have lb := b2 fun e => hsp (.inr e)
    split at h
    · split at h
      · simp at h
      · injection h with h
        injection h with h1 h2
        subst h1
        exact ⟨by simp, by simp, by simp, by simp, ⟨by simp, by intro e; have := congrArg List.length e; simp at this, by simp, trivial⟩, la, lb, fun x hx => by
          obtain rfl : x = ⟨0, 0, headB 1 0⟩ := by simpa using hx
          simp, by simp [layAll, lay]⟩
    · rename_i hw
      split at h
      · rename_i hb
        injection h with h
        injection h with h1 h2
        subst h1
        have hb3 : (readA d.2).state = 3 := by
          rcases hb with hb | hb
          · exact Decidable.not_not.1 fun e => hw ⟨hb, e⟩
          · exact hb.1
        obtain ⟨x1, x2, x3⟩ := b1 hb3
        exact ⟨by simp, x3, x2, by show (readA d.2).end_ ≤ 1048576; omega, trivial, la, lb, fun x hx => by simp at hx, by simp [layAll]; exact x1⟩
      · rename_i hb
        injection h with h
        injection h with h1 h2
        subst h1
        have ha3 : (readA d.1).state = 3 := Decidable.not_not.1 fun e => hb (.inl e)
        obtain ⟨x1, x2, x3⟩ := a1 ha3
        exact ⟨by simp, x3, x2, by show (readA d.1).end_ ≤ 1048576; omega, trivial, la, lb, fun x hx => by simp at hx, by simp [layAll]; exact x1⟩
end Go.Proofs.YtdpaaoeipconcaaDoor
