/- A net of package under by its packets alone: what each method answers and leaves. Condition: the net stands whole at its block. -/
import Derived.Test.YtgnndggbjipioaaAGone
namespace Go.Proofs.Ytgnndggbjipioaa
open Go.RowKit

def NetU (F : Nat → Prop) (w : World) (g lim : Nat) (ps : List Pk) : Prop := ∃ L q, UNet F w g lim L q ∧ q.map (·.1) = ps

section
variable {F : Nat → Prop} {w w' : World} {g lim : Nat} {ps : List Pk}
theorem NetU.keep (h : NetU F w g lim ps) (hk : Keeps F w w') : NetU F w' g lim ps := by
  obtain ⟨L, q, h, e⟩ := h
  exact ⟨L, q, h.keep hk, e⟩
theorem NetU.lt (h : NetU F w g lim ps) : ∀ k, F k → k < w.heap.size := by
  obtain ⟨L, q, h, e⟩ := h
  exact h.lt
theorem NetU.room (h : NetU F w g lim ps) : ps.length ≤ lim := by
  obtain ⟨L, q, h, e⟩ := h
  have := h.room
  subst e; simpa using this
theorem NetU.most (h : NetU F w g lim ps) : lim ≤ 4096 := by
  obtain ⟨L, q, h, e⟩ := h
  exact h.most
theorem NetU.len (h : NetU F w g lim ps) : ∀ p ∈ ps, p.2.length ≤ 65535 := by
  obtain ⟨L, q, h, e⟩ := h
  subst e
  intro p hp
  obtain ⟨x, hx, rfl⟩ := List.mem_map.1 hp
  exact h.len x hx

/-- A list that was asked for. -/
def PostLst (w : World) (ps : List Pk) (e : Ending) (w' : World) : Prop :=
  ∃ A c, e = .returned (.slice A ps.length c) ∧ ps.length ≤ c ∧ Pks (fun k => w.heap.size ≤ k) w' A ps ∧ Old w w'

theorem list_net (h : NetU F w g lim ps) : Calls Try.prog 32 #[.pointer (some ⟨g, 0, none⟩)] w (PostLst w ps) := by
  have hr := h.room
  have hm := h.most
  obtain ⟨L, q, hN, rfl⟩ := h
  refine (ulist_any w F g lim L q hN).mono ?_
  rintro e w1 ⟨v, r, rfl, hf, he, hold⟩
  obtain ⟨A, c, rfl, hc, _⟩ := own_slice hf.row
  have hl : r.length = (q.map (·.1)).length := by rw [← he]; simp
  have hp := hf.pks (by omega)
  rw [he] at hp
  exact ⟨A, c, by rw [hl], by omega, hp, hold⟩

/-- Behind a change. -/
def PostN (F : Nat → Prop) (w : World) (g lim : Nat) (r : Int × List Pk) (e : Ending) (w' : World) : Prop :=
  e = .returned (.int .i64 r.1) ∧ ∃ F', NetU F' w' g lim r.2 ∧ (∀ k, F' k → F k ∨ w.heap.size ≤ k) ∧ Keeps (fun k => ¬ F k) w w'

theorem PostN.of {r : Int × List Pk} {e : Ending} (h : PostU F w g lim r e w') : PostN F w g lim r e w' := by
  obtain ⟨F', L', q', rfl, h1, h2, h3, h4⟩ := h
  exact ⟨rfl, F', ⟨L', q', h1, h2⟩, h3, h4⟩

theorem copy_net (h : NetU F w g lim ps) (i : Int) : Calls Try.prog 29 #[.pointer (some ⟨g, 0, none⟩), .int .i64 i] w (PostN F w g lim (copyS lim i ps)) := by
  obtain ⟨L, q, hN, rfl⟩ := h
  exact (ucopy_any w F g lim L q i hN).mono fun _ _ h => PostN.of h
theorem lose_net (h : NetU F w g lim ps) (i : Int) : Calls Try.prog 30 #[.pointer (some ⟨g, 0, none⟩), .int .i64 i] w (PostN F w g lim (loseS i ps)) := by
  obtain ⟨L, q, hN, rfl⟩ := h
  exact (ulose_any w F g lim L q i hN).mono fun _ _ h => PostN.of h
theorem spoil_net (h : NetU F w g lim ps) (i at_ : Int) (m : UInt8) : Calls Try.prog 31 #[.pointer (some ⟨g, 0, none⟩), .int .i64 i, .int .i64 at_, .int .u8 m.toNat] w (PostN F w g lim (spoilS i at_ m ps)) := by
  obtain ⟨L, q, hN, rfl⟩ := h
  exact (uspoil_any w F g lim L q i at_ m hN).mono fun _ _ h => PostN.of h

/-- Behind a Take. -/
def PostNT (F : Nat → Prop) (w : World) (g lim : Nat) (r : Pk × Int × List Pk) (e : Ending) (w' : World) : Prop :=
  ∃ A c F' G, e = .returned (.tuple #[.agg #[.int .u32 r.1.1, .slice A r.1.2.length c], .int .i64 r.2.1]) ∧ NetU F' w' g lim r.2.2 ∧ Bts G w' A r.1.2 ∧ r.1.2.length ≤ c ∧
    (∀ k, F' k → F k) ∧ (∀ k, G k → F k) ∧ (∀ k, F' k → ¬ G k) ∧ Keeps (fun k => ¬ F k) w w'

theorem take_net (h : NetU F w g lim ps) (i : Int) : Calls Try.prog 28 #[.pointer (some ⟨g, 0, none⟩), .int .i64 i] w (PostNT F w g lim (takeS i ps)) := by
  obtain ⟨L, q, hN, rfl⟩ := h
  refine (utake_any w F g lim L q i hN).mono ?_
  rintro e w1 ⟨F', G, L', q', v, rfl, h1, h2, h3, h4, h5, h6, h7⟩
  obtain ⟨A, c, rfl, hc, _⟩ := h3.slice
  exact ⟨A, c, F', G, rfl, ⟨L', q', h1, h2⟩, h3.bts, hc, h4, h5, h6, h7⟩

/-- Behind a Put. -/
def PostNP (F : Nat → Prop) (w : World) (g lim : Nat) (r : Nat × Int × List Pk) (e : Ending) (w' : World) : Prop :=
  e = .returned (.tuple #[.int .i64 (r.1 : Int), .int .i64 r.2.1]) ∧ ∃ F', NetU F' w' g lim r.2.2 ∧ (∀ k, F' k → F k ∨ w.heap.size ≤ k) ∧ Keeps (fun k => ¬ F k) w w'

theorem put_net (h : NetU F w g lim ps) {S : Nat → Prop} {A : Option Addr} {c : Nat} {ss : List Pk} (hr : Pks S w A ss) (hS : ∀ k, S k → k < w.heap.size ∧ ¬ F k) :
    Calls Try.prog 27 #[.pointer (some ⟨g, 0, none⟩), .slice A ss.length c] w (PostNP F w g lim (putS lim ps ss)) := by
  obtain ⟨L, q, hN, rfl⟩ := h
  refine (uput_any w F S g lim L q A c ss hN hr (fun k _ h => ⟨fun e => (hS k h).2 (e ▸ hN.fg), fun e => (hS k h).2 (hN.flight.foot k e)⟩) (fun k h => (hS k h).1)).mono ?_
  rintro e w1 ⟨F', L', q', rfl, h1, h2, h3, h4⟩
  exact ⟨rfl, F', ⟨L', q', h1, h2⟩, h3, h4.mono fun k _ h => ⟨fun e => h (e ▸ hN.fg), fun e => h (hN.flight.foot k e)⟩⟩
end

/-- What putS answers, outright. -/
theorem putS_spec (lim : Nat) (ss : List Pk) : ∀ ps : List Pk, ps.length ≤ lim → (putS lim ps ss).1 ≤ ss.length ∧ (putS lim ps ss).2.2 = ps ++ ss.take (putS lim ps ss).1 ∧ (putS lim ps ss).2.2.length ≤ lim ∧
    ((putS lim ps ss).1 = ss.length → (putS lim ps ss).2.1 = 0) ∧
    ∀ h : (putS lim ps ss).1 < ss.length, (65535 < (ss[(putS lim ps ss).1]).2.length → (putS lim ps ss).2.1 = 2) ∧ (¬ 65535 < (ss[(putS lim ps ss).1]).2.length → (putS lim ps ss).2.1 = 4 ∧ (putS lim ps ss).2.2.length = lim) := by
  induction ss with
  | nil => intro ps h; simp [putS, h]
  | cons s ss ih =>
    intro ps h
    by_cases h1 : 65535 < s.2.length
    · have e : putS lim ps (s :: ss) = (0, 2, ps) := by rw [putS, if_pos h1]
      rw [e]
      exact ⟨by simp, by simp, h, fun h => by simp at h, fun _ => ⟨fun _ => rfl, fun h => absurd h1 h⟩⟩
    · by_cases h2 : lim ≤ ps.length
      · have e : putS lim ps (s :: ss) = (0, 4, ps) := by rw [putS, if_neg h1, if_pos h2]
        rw [e]
        exact ⟨by simp, by simp, h, fun h => by simp at h, fun _ => ⟨fun h => absurd h h1, fun _ => ⟨rfl, by simp; omega⟩⟩⟩
      · have e : putS lim ps (s :: ss) = ((putS lim (ps ++ [s]) ss).1 + 1, (putS lim (ps ++ [s]) ss).2.1, (putS lim (ps ++ [s]) ss).2.2) := by rw [putS, if_neg h1, if_neg h2]
        obtain ⟨i1, i2, i3, i4, i5⟩ := ih (ps ++ [s]) (by simp; omega)
        rw [e]
        refine ⟨by simpa using i1, ?_, i3, fun h => i4 (by simpa using h), fun h => ?_⟩
        · simp only [List.take_succ_cons]
          rw [i2, List.append_assoc]
          rfl
        · simp only [List.getElem_cons_succ]
          exact i5 (by simpa using h)
end Go.Proofs.Ytgnndggbjipioaa
