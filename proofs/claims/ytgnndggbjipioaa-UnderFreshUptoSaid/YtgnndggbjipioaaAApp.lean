/- append onto any slice that begins a block of elements of s cells: what lies there then, in its own place or in a new one. Conditions: the block's first cells are known, the sizes are small. -/
import Derived.Test.YtgnndggbjipioaaANet
namespace Go.Proofs.Ytgnndggbjipioaa
open Go.RowKit

theorem info46 : (Try.prog.info? 46).map (fun i => (i.zero, i.size, i.bytes)) = some (some (.slice none 0 0), 1, 24) := by kernel_rfl
theorem one_one {v : Value} (h : v.oneCell' = true) : ∀ u ∈ [v], u.oneCell' = true := by
  intro u hu
  obtain rfl : u = v := by simpa using hu
  exact h
theorem Bts.mono' {S T : Nat → Prop} {w : World} {A : Option Addr} {bs : List UInt8} (h : Bts S w A bs) (hT : ∀ k, S k → T k) : Bts T w A bs := h.mono fun k _ => hT k

/-- A block of cap elements of s cells whose first cells are xs. -/
def RowS (w : World) (e s g cap : Nat) (xs : List Value) : Prop := ∃ cur : Array Value, w.heap[g]? = some (.cells cur e (0, 0)) ∧ cur.size = cap * s ∧ xs.length ≤ cap * s ∧ cur.toList.take xs.length = xs

section
variable {S : Nat → Prop} {w w' : World} {e s g cap : Nat} {xs : List Value}
theorem RowS.lt (h : RowS w e s g cap xs) : g < w.heap.size := by
  obtain ⟨cur, hg, _⟩ := h
  exact lt_of_heap hg
theorem RowS.le (h : RowS w e s g cap xs) : xs.length ≤ cap * s := by
  obtain ⟨cur, _, _, h, _⟩ := h
  exact h
theorem RowS.keep (h : RowS w e s g cap xs) (hk : Keeps S w w') (hs : S g) : RowS w' e s g cap xs := by
  obtain ⟨cur, hg, rest⟩ := h
  exact ⟨cur, hk.heap hg hs, rest⟩
theorem RowS.cell (h : RowS w e s g cap xs) {i : Nat} (hi : i < xs.length) : w.cell? ⟨g, i, none⟩ = xs[i]? := by
  obtain ⟨cur, hg, hs, hl, ht⟩ := h
  rw [cell_of_heap hg, ← ht, List.getElem?_take, if_pos hi]
  simp
theorem RowS.some_ (h : RowS w e s g cap xs) {i : Nat} (hi : i < cap * s) : ∃ v, w.cell? ⟨g, i, none⟩ = some v := by
  obtain ⟨cur, hg, hs, hl, ht⟩ := h
  rw [cell_of_heap hg]
  exact ⟨cur[i], Array.getElem?_eq_getElem (by omega)⟩
theorem RowS.frozen (h : RowS w e s g cap xs) (i : Nat) : w.frozen? ⟨g, i, none⟩ = false := by
  obtain ⟨cur, hg, _⟩ := h
  exact frozen_of_heap hg
theorem RowS.take (h : RowS w e s g cap xs) (n : Nat) : RowS w e s g cap (xs.take n) := by
  obtain ⟨cur, hg, hs, hl, ht⟩ := h
  refine ⟨cur, hg, hs, by rw [List.length_take]; omega, ?_⟩
  rw [List.length_take]
  conv => rhs; rw [← ht, List.take_take]
theorem RowS.ofOwn {b n c : Nat} (h : w.ownsRow b e s (.slice (some ⟨g, 0, none⟩) n c) n xs) : RowS w e s g c xs := by
  obtain ⟨hl, h | ⟨g', cap, cur, hv, hb, hg, hnc, hcm, hcs, ht⟩⟩ := h
  · simp at h
  · injection hv with hA _ hc
    injection hA with hA
    injection hA with hA _ _
    subst hA hc
    have := Nat.mul_le_mul_right s hnc
    refine ⟨cur, hg, by omega, by omega, ?_⟩
    rw [hl]
    exact ht
theorem RowS.set (h : RowS w e s g cap xs) (i : Nat) (v : Value) : RowS (w.setCell ⟨g, i, none⟩ v) e s g cap (xs.set i v) := by
  obtain ⟨cur, hg, hs, hl, ht⟩ := h
  refine ⟨cur.setIfInBounds i v, heap_setCell hg v, by simpa using hs, by simpa using hl, ?_⟩
  rw [Array.toList_setIfInBounds, List.length_set, List.take_set, ht]
theorem RowS.push (h : RowS w e s g cap xs) (hi : xs.length < cap * s) (v : Value) : RowS (w.setCell ⟨g, xs.length, none⟩ v) e s g cap (xs ++ [v]) := by
  obtain ⟨cur, hg, hs, hl, ht⟩ := h
  refine ⟨cur.setIfInBounds xs.length v, heap_setCell hg v, by simpa using hs, by rw [List.length_append]; exact hi, ?_⟩
  have hlt : xs.length < cur.toList.length := by simpa [hs] using hi
  rw [Array.toList_setIfInBounds, List.length_append, List.length_singleton, List.take_set, List.take_succ_eq_append_getElem hlt, ht, List.set_append_right _ _ (Nat.le_refl _), Nat.sub_self]
  rfl
end

theorem add_none0 (b o i : Nat) : (⟨b, o, none⟩ : Addr).add i = ⟨b, o + i, none⟩ := by
  unfold Addr.add
  split <;> simp_all

/-- What an append of m elements onto the first n of a block answers, and leaves. -/
def AppS (w : World) (e s g cap n m : Nat) (xs news : List Value) (v : Value) (w' : World) : Prop :=
  (n + m ≤ cap ∧ v = .slice (some ⟨g, 0, none⟩) (n + m) cap ∧ RowS w' e s g cap (xs.take (n * s) ++ news ++ xs.drop ((n + m) * s)) ∧ Keeps (· ≠ g) w w' ∧ w'.heap.size = w.heap.size) ∨
  (cap < n + m ∧ ∃ cap', n + m ≤ cap' ∧ cap' ≤ maxLen ∧ v = .slice (some ⟨w.heap.size, 0, none⟩) (n + m) cap' ∧ RowS w' e s w.heap.size cap' (xs.take (n * s) ++ news) ∧ Old w w' ∧ w'.heap.size = w.heap.size + 1)

section
variable {P : Program} (w : World)

theorem run_appS (t ty e : TypeId) {z : Value} {s bytes : Nat} (ht : P.underlying t = some (.slice e)) (hi : (P.info? e).map (fun i => (i.zero, i.size, i.bytes)) = some (some z, s, bytes)) (hz1 : z.cells.size = s)
    {g cap n : Nat} {xs : List Value} (hr : RowS w e s g cap xs) (hn : n * s ≤ xs.length) (ad : Addr) (m c : Nat) (news : List Value) (hl : news.length = m * s) (hnews : ∀ j u, news[j]? = some u → w.cell? (ad.add j) = some u) (h1 : ∀ u ∈ news, u.oneCell' = true)
    (_ : 0 < m) (hb : (n + m) * bytes ≤ 140737488355328) (h63 : n + m ≤ maxLen) :
    ∃ v' w', (Builtin.append_ #[t, t] ty #[.slice (some ⟨g, 0, none⟩) n cap, .slice (some ad) m c]).run P w = .ok v' w' ∧ AppS w e s g cap n m xs news v' w' := by
  obtain ⟨i, hi0, hz0, hzs, hzb⟩ := info_parts hi
  have hsm : n + m ≤ 9223372036854775807 := by simp only [maxLen] at h63; omega
  obtain ⟨cur, hg, hs, hle, htk⟩ := hr
  have hnx : (xs.take (n * s)).length = n * s := by rw [List.length_take]; omega
  have htn : cur.toList.take (n * s) = xs.take (n * s) := by rw [← htk, List.take_take, Nat.min_eq_left hn]
  have hnm : (n + m) * s = n * s + m * s := Nat.add_mul _ _ _
  by_cases hroom : n + m ≤ cap
  · have hcm := Nat.mul_le_mul_right s hroom
    have hrun := run_append_room (P := P) w t ty e i ht hi0 g n cap cur hg ad m c news (by rw [hzs]; exact hl) hnews h1 hroom (by rw [hzs, hs]; omega)
    rw [hzs, show n * s + news.length = (n + m) * s by omega] at hrun
    refine ⟨_, _, hrun, .inl ⟨hroom, rfl, ⟨_, setRow_heap w g cur _ e _ hg, ?_, ?_, ?_⟩, (Keeps.refl _ _).setRow (by simp) _, by simp [World.setRow]⟩⟩
    · simp only [List.size_toArray, List.length_append, List.length_take, List.length_drop, Array.length_toList]
      omega
    · simp only [List.length_append, List.length_take, List.length_drop]
      omega
    · have hd : (cur.toList.drop ((n + m) * s)).take (xs.length - (n + m) * s) = xs.drop ((n + m) * s) := by
        rw [← List.drop_take, htk]
      rw [htn]
      show (xs.take (n * s) ++ news ++ cur.toList.drop ((n + m) * s)).take _ = _
      have e1 : (xs.take (n * s) ++ news).length = (n + m) * s := by rw [List.length_append, hnx, hl, hnm]
      rw [List.length_append, List.take_append, List.length_drop, List.take_of_length_le (by omega), show (xs.take (n * s) ++ news).length + (xs.length - (n + m) * s) - (xs.take (n * s) ++ news).length = xs.length - (n + m) * s by omega, hd]
  · have holds : ∀ j u, (xs.take (n * s))[j]? = some u → w.cell? ((⟨g, 0, none⟩ : Addr).add j) = some u := fun j u hj => by
      obtain ⟨hjl, _⟩ := List.getElem?_eq_some_iff.1 hj
      rw [add_none0, Nat.zero_add, cell_of_heap hg, ← hj, ← htn, List.getElem?_take, if_pos (by omega)]
      simp
    have hrun := run_append_grow (P := P) w t ty e i z ht hi0 hz0 ⟨g, 0, none⟩ n cap (xs.take (n * s)) (by rw [hnx, hzs]) holds ad m c news (by rw [hzs]; exact hl) hnews (by omega) (by omega) (growslice_fits (by omega) (by rw [hzb]; exact hb))
    have hge := grownCap_ge w (n + m) cap e
    have hcm : grownCap w (n + m) cap e ≤ maxLen := grownCap_le_maxLen w (n + m) cap e h63
    have hgs := Nat.mul_le_mul_right s hge
    refine ⟨_, _, hrun, .inr ⟨by omega, _, hge, hcm, rfl, ⟨_, heap_alloc_new w.drew _, ?_, ?_, ?_⟩, ((Keeps.refl _ _).drew).alloc _, by simp⟩⟩
    · simp only [Array.size_append, List.size_toArray, size_zeroCells, hz1, hnx, hl]
      rw [Nat.sub_mul]
      omega
    · rw [List.length_append, hnx, hl]; omega
    · simp only [Array.toList_append]
      exact List.take_left' rfl
end
end Go.Proofs.Ytgnndggbjipioaa
