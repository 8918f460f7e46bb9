/- weftlaw18.Book seen from outside: what its steps leave alone. Conditions: the book lies, apart from what is reserved. -/
import Derived.Test.YtgnndggbjipioaaAKeepL
namespace Go.Proofs.Ytgnndggbjipioaa
open Go.RowKit

/-- A book at pb; R: blocks that are not the book's. N: how many lists it has at most, Z: its size at most. -/
def Bk (R : Nat → Prop) (pb N Z : Nat) (w : World) : Prop :=
  (∀ k, R k → k < w.heap.size) ∧ ∃ K M vL vM vO es os size, BookM K M w pb vL vM vO es os size ∧ HeadsOK os ∧ es.length ≤ N ∧ os.length ≤ N ∧ size ≤ Z ∧ ∀ k, R k → ¬ K k ∧ ¬ M k

section
variable {R R' : Nat → Prop} {pb N Z N' Z' : Nat} {w w' : World}
theorem Bk.less (h : Bk R pb N Z w) (hR : ∀ k, R' k → R k) : Bk R' pb N Z w := by
  obtain ⟨h0, K, M, vL, vM, vO, es, os, size, h1, h2, h3, h4, h5, h6⟩ := h
  exact ⟨fun k hk => h0 k (hR k hk), K, M, vL, vM, vO, es, os, size, h1, h2, h3, h4, h5, fun k hk => h6 k (hR k hk)⟩
theorem Bk.more (h : Bk R pb N Z w) (hN : N ≤ N') (hZ : Z ≤ Z') : Bk R pb N' Z' w := by
  obtain ⟨h0, K, M, vL, vM, vO, es, os, size, h1, h2, h3, h4, h5, h6⟩ := h
  exact ⟨h0, K, M, vL, vM, vO, es, os, size, h1, h2, by omega, by omega, by omega, h6⟩
/-- Writes elsewhere, new blocks. -/
theorem Bk.keep (h : Bk R pb N Z w) (hk : Keeps (fun k => ¬ R k) w w') : Bk (fun k => R k ∨ (w.heap.size ≤ k ∧ k < w'.heap.size)) pb N Z w' := by
  obtain ⟨h0, K, M, vL, vM, vO, es, os, size, h1, h2, h3, h4, h5, h6⟩ := h
  have hz := hk.size
  refine ⟨fun k hk' => ?_, K, M, vL, vM, vO, es, os, size, h1.keep (hk.mono fun k _ hs hr => ?_), h2, h3, h4, h5, fun k hk' => ?_⟩
  · rcases hk' with h' | h'
    · have := h0 k h'; omega
    · exact h'.2
  · rcases hs with hs | hs
    · exact (h6 k hr).1 hs
    · exact (h6 k hr).2 hs
  · rcases hk' with h' | h'
    · exact h6 k h'
    · exact ⟨fun hs => by have := h1.lt k (.inl hs); omega, fun hs => by have := h1.lt k (.inr hs); omega⟩

/-- What may be kept. -/
def KeepR (R : Nat → Prop) (w : World) (lv : Value) (n : Nat) : Prop := (lv = .slice none 0 0 ∧ n = 0) ∨ ∃ b c, lv = .slice (some ⟨b, 0, none⟩) n c ∧ Row1 w 5 b c [] ∧ n ≤ c ∧ c ≤ maxLen ∧ R b
theorem KeepR.ofOwn {F : Nat → Prop} {v : Value} {bs : List UInt8} (h : OwnB F w v bs) (hF : ∀ k, F k → R k) : KeepR R w v bs.length := by
  rcases h.row.2 with ⟨hv, h0⟩ | ⟨g, cap, cur, hv, hb0, hg, hnc, hcm, hcs, ht⟩
  · exact .inl ⟨hv, h0⟩
  · exact .inr ⟨g, cap, hv, ⟨cur, hg, by omega, by simp, by simp⟩, hnc, hcm, hF g (h.foot g (by rw [hv]; rfl))⟩

theorem keep_bk (h : Bk R pb N Z w) (hN : N ≤ 4000000000000) (hZ : Z ≤ 2305843009213693952) {lv : Value} {n : Nat} (hlv : KeepR R w lv n) (hn : n ≤ 1000000000000) :
    Calls Try.prog 37 #[.pointer (some ⟨pb, 0, none⟩), lv] w fun e w' => e = .returned (.tuple #[]) ∧ Bk (fun k => R k ∧ lv.ownBlock ≠ some k) pb (N + 4) (Z + n + 400) w' ∧ Keeps (fun k => R k ∧ lv.ownBlock ≠ some k) w w' := by
  obtain ⟨h0, K, M, vL, vM, vO, es, os, size, h1, h2, h3, h4, h5, h6⟩ := h
  refine (keep_any w K M pb vL vM vO es os size h1 (by omega) (by omega) lv n ?_ hn).mono ?_
  · rcases hlv with h | ⟨b, c, a1, a2, a3, a4, a5⟩
    · exact .inl h
    · exact .inr ⟨b, c, a1, a2, a3, a4, (h6 b a5).1, (h6 b a5).2⟩
  · rintro e w' ⟨rfl, K', M', vL', vM', es', g1, g2, g3, g4, g5⟩
    have hz := g5.size
    refine ⟨rfl, ⟨fun k hk => by have := h0 k hk.1; omega, K', M', vL', vM', vO, es', os, _, g1, h2, by omega, by omega, by omega, fun k hk => ⟨fun hs => ?_, fun hs => ?_⟩⟩, g5.mono fun k _ hk => ⟨(h6 k hk.1).2, hk.2⟩⟩
    · rcases g3 k hs with h' | h' | h'
      · exact (h6 k hk.1).1 h'
      · exact hk.2 h'
      · have := h0 k hk.1; omega
    · rcases g4 k hs with h' | h'
      · exact (h6 k hk.1).2 h'
      · have := h0 k hk.1; omega

theorem keepL_bk (h : Bk R pb N Z w) (hN : N ≤ 3000000000000) (hZ : Z ≤ 2205843009213693952) {F : Nat → Prop} {L : Value} {q : List (Pk × Value)} (hL : Flight F w L q) (hF : ∀ k, F k → R k) (hql : q.length ≤ 1000000) (hqs : ∀ x ∈ q, x.1.2.length ≤ 1000000000) (hsum : keepSum q ≤ 1000000000000000) :
    Calls Try.prog 39 #[.pointer (some ⟨pb, 0, none⟩), L] w fun e w' => e = .returned (.tuple #[]) ∧ Bk (fun k => R k ∧ ¬ F k) pb (N + 4 * q.length + 4) (Z + keepSum q + 96 * q.length + 4000) w' ∧ Keeps (fun k => R k ∧ ¬ F k) w w' := by
  obtain ⟨h0, K, M, vL, vM, vO, es, os, size, h1, h2, h3, h4, h5, h6⟩ := h
  refine (keepL_any w K M F pb vL vM vO es os size h1 h2 L q hL (fun k _ hf => h6 k (hF k hf)) hql hqs (by omega) (by omega) (by omega) hsum).mono ?_
  rintro e w' ⟨rfl, K', M', vL', vM', vO', es', os', size', g1, g2, g3, g3', g3'', g4, g5, g6⟩
  have hz := g6.size
  refine ⟨rfl, ⟨fun k hk => by have := h0 k hk.1; omega, K', M', vL', vM', vO', es', os', size', g1, g2, by omega, by omega, by omega, fun k hk => ⟨fun hs => ?_, fun hs => ?_⟩⟩, g6.mono fun k _ hk => ⟨(h6 k hk.1).2, hk.2⟩⟩
  · rcases g4 k hs with h' | h' | h'
    · exact (h6 k hk.1).1 h'
    · exact hk.2 h'
    · have := h0 k hk.1; omega
  · rcases g5 k hs with h' | h'
    · exact (h6 k hk.1).2 h'
    · have := h0 k hk.1; omega

theorem whole_bk (h : Bk R pb N Z w) (hN : N ≤ 4000000000000) : Calls Try.prog 40 #[.pointer (some ⟨pb, 0, none⟩)] w fun e w' => e = .returned (.bool true) ∧ Old w w' := by
  obtain ⟨h0, K, M, vL, vM, vO, es, os, size, h1, h2, h3, h4, h5, h6⟩ := h
  exact whole_any w K M pb vL vM vO es os size h1 h2 (by omega) (by omega)

theorem Bk.new (R : Nat → Prop) (hR : ∀ k, R k → k < w.heap.size) : Bk R w.heap.size 0 0 (w.alloc (.cells #[.slice none 0 0, .slice none 0 0, .int .i64 0, .slice none 0 0] 63)) := by
  refine ⟨fun k hk => by have := hR k hk; simp; omega, fun _ => False, (· = w.heap.size), _, _, _, [], [], 0, ⟨heap_alloc_new _ _, World.ownsRow_nil _ _ _ _, by simp [Value.ownBlock], World.ownsRow_nil _ _ _ _, by simp [Value.ownBlock], World.ownsRow_nil _ _ _ _, by simp [Value.ownBlock], by simp, by simp, rfl, fun _ h => h.elim, fun k hk => ?_, by simp⟩, ⟨rfl, by simp⟩, Nat.le_refl _, Nat.le_refl _, Nat.le_refl _, fun k hk => ⟨fun h => h.elim, fun h => by have := hR k hk; omega⟩⟩
  rcases hk with hk | hk
  · exact hk.elim
  · rw [hk]; simp
end

theorem keepSum_le' {q : List (Pk × Value)} {B : Nat} (h : ∀ x ∈ q, x.1.2.length ≤ B) : keepSum q ≤ q.length * (B + 400) := by
  induction q with
  | nil => simp [keepSum]
  | cons x q ih =>
    have h1 := h x (by simp)
    have h2 := ih fun y hy => h y (by simp [hy])
    unfold keepSum at h2 ⊢
    rw [List.map_cons, List.sum_cons, List.length_cons, Nat.add_mul, Nat.one_mul]
    omega

end Go.Proofs.Ytgnndggbjipioaa
