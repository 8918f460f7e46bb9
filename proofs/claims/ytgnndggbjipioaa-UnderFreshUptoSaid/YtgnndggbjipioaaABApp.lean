/- append onto any slice that begins a block of one-cell elements: what lies there then, in its own place or in a new one. Conditions: the block's first cells are known, the sizes are small. -/
import Derived.Test.YtgnndggbjipioaaAApp
namespace Go.Proofs.Ytgnndggbjipioaa
open Go.RowKit

/-- A block of cap cells whose first ones are xs. -/
def Row1 (w : World) (e g cap : Nat) (xs : List Value) : Prop := ∃ cur : Array Value, w.heap[g]? = some (.cells cur e (0, 0)) ∧ cur.size = cap ∧ xs.length ≤ cap ∧ cur.toList.take xs.length = xs

section
variable {S : Nat → Prop} {w w' : World} {e g cap : Nat} {xs : List Value}
theorem Row1.lt (h : Row1 w e g cap xs) : g < w.heap.size := by
  obtain ⟨cur, hg, _⟩ := h
  exact lt_of_heap hg
theorem Row1.le (h : Row1 w e g cap xs) : xs.length ≤ cap := by
  obtain ⟨cur, _, _, h, _⟩ := h
  exact h
theorem Row1.keep (h : Row1 w e g cap xs) (hk : Keeps S w w') (hs : S g) : Row1 w' e g cap xs := by
  obtain ⟨cur, hg, rest⟩ := h
  exact ⟨cur, hk.heap hg hs, rest⟩
theorem Row1.cell (h : Row1 w e g cap xs) {i : Nat} (hi : i < xs.length) : w.cell? ⟨g, i, none⟩ = xs[i]? := by
  obtain ⟨cur, hg, hs, hl, ht⟩ := h
  rw [cell_of_heap hg, ← ht, List.getElem?_take, if_pos hi]
  simp
theorem Row1.some_ (h : Row1 w e g cap xs) {i : Nat} (hi : i < cap) : ∃ v, w.cell? ⟨g, i, none⟩ = some v := by
  obtain ⟨cur, hg, hs, hl, ht⟩ := h
  rw [cell_of_heap hg]
  exact ⟨cur[i], Array.getElem?_eq_getElem (by omega)⟩
theorem Row1.frozen (h : Row1 w e g cap xs) (i : Nat) : w.frozen? ⟨g, i, none⟩ = false := by
  obtain ⟨cur, hg, _⟩ := h
  exact frozen_of_heap hg
theorem Row1.ofOwn {b n c : Nat} (h : w.ownsRow b e 1 (.slice (some ⟨g, 0, none⟩) n c) n xs) : Row1 w e g c xs := by
  obtain ⟨hl, h | ⟨g', cap, cur, hv, hb, hg, hnc, hcm, hcs, ht⟩⟩ := h
  · simp at h
  · injection hv with hA _ hc
    injection hA with hA
    injection hA with hA _ _
    subst hA hc
    have hn : xs.length = n := by omega
    refine ⟨cur, hg, by omega, by omega, ?_⟩
    rw [hn]
    simpa using ht
theorem Row1.own (h : Row1 w e g cap xs) {n : Nat} (hn : n = xs.length) (hc : cap ≤ maxLen) : w.ownsRow 0 e 1 (.slice (some ⟨g, 0, none⟩) n cap) n xs := by
  obtain ⟨cur, hg, hs, hl, ht⟩ := h
  exact ⟨by omega, .inr ⟨g, cap, cur, rfl, Nat.zero_le _, hg, by omega, hc, by omega, by rw [hn, Nat.mul_one]; exact ht⟩⟩
theorem Row1.take (h : Row1 w e g cap xs) (n : Nat) : Row1 w e g cap (xs.take n) := by
  obtain ⟨cur, hg, hs, hl, ht⟩ := h
  refine ⟨cur, hg, hs, by rw [List.length_take]; omega, ?_⟩
  rw [List.length_take]
  conv => rhs; rw [← ht, List.take_take]
/-- A store inside, or just behind. -/
theorem Row1.set (h : Row1 w e g cap xs) (i : Nat) (v : Value) : Row1 (w.setCell ⟨g, i, none⟩ v) e g cap (xs.set i v) := by
  obtain ⟨cur, hg, hs, hl, ht⟩ := h
  refine ⟨cur.setIfInBounds i v, heap_setCell hg v, by simpa using hs, by simpa using hl, ?_⟩
  rw [Array.toList_setIfInBounds, List.length_set, List.take_set, ht]
theorem Row1.push (h : Row1 w e g cap xs) (hi : xs.length < cap) (v : Value) : Row1 (w.setCell ⟨g, xs.length, none⟩ v) e g cap (xs ++ [v]) := by
  obtain ⟨cur, hg, hs, hl, ht⟩ := h
  refine ⟨cur.setIfInBounds xs.length v, heap_setCell hg v, by simpa using hs, by rw [List.length_append]; exact hi, ?_⟩
  have hlt : xs.length < cur.toList.length := by simpa [hs] using hi
  rw [Array.toList_setIfInBounds, List.length_append, List.length_singleton, List.take_set, List.take_succ_eq_append_getElem hlt, ht, List.set_append_right _ _ (Nat.le_refl _), Nat.sub_self]
  rfl
end

/-- What an append onto the first n of a block answers, and leaves. -/
def App1 (w : World) (e g cap n : Nat) (xs news : List Value) (v : Value) (w' : World) : Prop :=
  (n + news.length ≤ cap ∧ v = .slice (some ⟨g, 0, none⟩) (n + news.length) cap ∧ Row1 w' e g cap (xs.take n ++ news ++ xs.drop (n + news.length)) ∧ Keeps (· ≠ g) w w' ∧ w'.heap.size = w.heap.size) ∨
  (cap < n + news.length ∧ ∃ cap', n + news.length ≤ cap' ∧ cap' ≤ maxLen ∧ v = .slice (some ⟨w.heap.size, 0, none⟩) (n + news.length) cap' ∧ Row1 w' e w.heap.size cap' (xs.take n ++ news) ∧ Old w w' ∧ w'.heap.size = w.heap.size + 1)

section
variable {P : Program} (w : World)

theorem run_app1 (t ty e : TypeId) {z : Value} {bytes : Nat} (ht : P.underlying t = some (.slice e)) (hi : (P.info? e).map (fun i => (i.zero, i.size, i.bytes)) = some (some z, 1, bytes)) (hz1 : z.cells.size = 1)
    {g cap n : Nat} {xs : List Value} (hr : Row1 w e g cap xs) (hn : n ≤ xs.length) (ad : Addr) (m c : Nat) (news : List Value) (hl : news.length = m) (hnews : ∀ j u, news[j]? = some u → w.cell? (ad.add j) = some u) (h1 : ∀ u ∈ news, u.oneCell' = true)
    (hm : 0 < m) (hb : (n + m) * bytes ≤ 140737488355328) (h63 : n + m ≤ maxLen) :
    ∃ v' w', (Builtin.append_ #[t, t] ty #[.slice (some ⟨g, 0, none⟩) n cap, .slice (some ad) m c]).run P w = .ok v' w' ∧ App1 w e g cap n xs news v' w' := by
  obtain ⟨i, hi0, hz0, hzs, hzb⟩ := info_parts hi
  subst hl
  have hsm : n + news.length ≤ 9223372036854775807 := by simp only [maxLen] at h63; omega
  obtain ⟨cur, hg, hs, hle, htk⟩ := hr
  have hnx : (xs.take n).length = n := by rw [List.length_take]; omega
  have htn : cur.toList.take n = xs.take n := by rw [← htk, List.take_take, Nat.min_eq_left hn]
  by_cases hroom : n + news.length ≤ cap
  · have hrun := run_append_room (P := P) w t ty e i ht hi0 g n cap cur hg ad news.length c news (by rw [hzs, Nat.mul_one]) hnews h1 hroom (by rw [hzs, Nat.mul_one, hs]; exact hroom)
    rw [hzs, Nat.mul_one] at hrun
    refine ⟨_, _, hrun, .inl ⟨hroom, rfl, ⟨_, setRow_heap w g cur _ e _ hg, ?_, ?_, ?_⟩, (Keeps.refl _ _).setRow (by simp) _, by simp [World.setRow]⟩⟩
    · simp only [List.size_toArray, List.length_append, List.length_take, List.length_drop, Array.length_toList]
      omega
    · simp only [List.length_append, List.length_take, List.length_drop]
      omega
    · have hd : (cur.toList.drop (n + news.length)).take (xs.length - (n + news.length)) = xs.drop (n + news.length) := by
        rw [← List.drop_take, htk]
      rw [htn]
      show (xs.take n ++ news ++ cur.toList.drop (n + news.length)).take _ = _
      rw [List.length_append, List.take_append, List.length_drop]
      have e1 : (xs.take n ++ news).length = n + news.length := by rw [List.length_append, hnx]
      rw [List.take_of_length_le (by omega), show (xs.take n ++ news).length + (xs.length - (n + news.length)) - (xs.take n ++ news).length = xs.length - (n + news.length) by omega, hd]
  · have holds : ∀ j u, (xs.take n)[j]? = some u → w.cell? ((⟨g, 0, none⟩ : Addr).add j) = some u := fun j u hj => by
      obtain ⟨hjl, _⟩ := List.getElem?_eq_some_iff.1 hj
      rw [add_none0, Nat.zero_add, cell_of_heap hg, ← hj, ← htn, List.getElem?_take, if_pos (by omega)]
      simp
    have hrun := run_append_grow (P := P) w t ty e i z ht hi0 hz0 ⟨g, 0, none⟩ n cap (xs.take n) (by rw [hnx, hzs, Nat.mul_one]) holds ad news.length c news (by rw [hzs, Nat.mul_one]) hnews (by omega) (by omega) (growslice_fits (by omega) (by rw [hzb]; exact hb))
    have hge := grownCap_ge w (n + news.length) cap e
    have hcm : grownCap w (n + news.length) cap e ≤ maxLen := grownCap_le_maxLen w (n + news.length) cap e h63
    refine ⟨_, _, hrun, .inr ⟨by omega, _, hge, hcm, rfl, ⟨_, heap_alloc_new w.drew _, ?_, ?_, ?_⟩, ((Keeps.refl _ _).drew).alloc _, by simp⟩⟩
    · simp only [Array.size_append, List.size_toArray, size_zeroCells, hz1, hnx, Nat.mul_one]
      omega
    · rw [List.length_append, hnx]; exact hge
    · simp only [Array.toList_append]
      exact List.take_left' rfl

theorem run_app1_nil (t ty e : TypeId) {z : Value} {bytes : Nat} (ht : P.underlying t = some (.slice e)) (hi : (P.info? e).map (fun i => (i.zero, i.size, i.bytes)) = some (some z, 1, bytes)) (hz1 : z.cells.size = 1)
    (ad : Addr) (m c : Nat) (news : List Value) (hl : news.length = m) (hnews : ∀ j u, news[j]? = some u → w.cell? (ad.add j) = some u)
    (hm : 0 < m) (hb : m * bytes ≤ 140737488355328) (h63 : m ≤ maxLen) :
    ∃ cap' w', (Builtin.append_ #[t, t] ty #[.slice none 0 0, .slice (some ad) m c]).run P w = .ok (.slice (some ⟨w.heap.size, 0, none⟩) m cap') w' ∧ m ≤ cap' ∧ cap' ≤ maxLen ∧ Row1 w' e w.heap.size cap' news ∧ Old w w' ∧ w'.heap.size = w.heap.size + 1 := by
  obtain ⟨i, hi0, hz0, hzs, hzb⟩ := info_parts hi
  subst hl
  have hsm : news.length ≤ 9223372036854775807 := by simp only [maxLen] at h63; omega
  have hrun := run_append_nil (P := P) w t ty e i z ht hi0 hz0 ad news.length c news (by rw [hzs, Nat.mul_one]) hnews hm (by omega) (by rw [hzb]; omega)
  have hge := grownCap_ge w news.length 0 e
  have hcm : grownCap w news.length 0 e ≤ maxLen := grownCap_le_maxLen w news.length 0 e h63
  refine ⟨_, _, hrun, hge, hcm, ⟨_, heap_alloc_new w.drew _, ?_, hge, ?_⟩, ((Keeps.refl _ _).drew).alloc _, by simp⟩
  · simp only [Array.size_append, List.size_toArray, size_zeroCells, hz1, Nat.mul_one]
    omega
  · simp only [Array.toList_append]
    exact List.take_left' rfl

theorem wpList_app1 {ops : Array Oper} {rest : List Oper} {o : Oper} {a : Act} {Q : Exit → Act → World → Prop} (hgd : o.guard = none) (s x : Operand) (t e : TypeId)
    (ho : o.op = .call { callee := .builtin .append, args := #[s, x], argTypes := #[t, t] })
    {z : Value} {bytes : Nat} (ht : P.underlying t = some (.slice e)) (hi : (P.info? e).map (fun i => (i.zero, i.size, i.bytes)) = some (some z, 1, bytes)) (hz1 : z.cells.size = 1)
    {g cap n : Nat} {xs : List Value} (hs : a.eval s = .slice (some ⟨g, 0, none⟩) n cap) (hr : Row1 w e g cap xs) (hn : n ≤ xs.length) (ad : Addr) (m c : Nat) (news : List Value) (hx : a.eval x = .slice (some ad) m c) (hl : news.length = m) (hnews : ∀ j u, news[j]? = some u → w.cell? (ad.add j) = some u) (h1 : ∀ u ∈ news, u.oneCell' = true)
    (hm : 0 < m) (hb : (n + m) * bytes ≤ 140737488355328) (h63 : n + m ≤ maxLen)
    (h : ∀ v' w', App1 w e g cap n xs news v' w' → wpList P ops Q rest (a.put o.dst v') w') : wpList P ops Q (o :: rest) a w := by
  refine wpList_plain hgd fun K hK => ?_
  obtain ⟨v', w', hrun, h2⟩ := run_app1 (P := P) w t o.type e ht hi hz1 hr hn ad m c news hl hnews h1 hm hb h63
  unfold Oper.wp execOp
  simp only [ho, resolve, invoke, builtin, Sem.run_bind, Sem.run_pure, Result.andThen_ok, List.map_toArray, List.map_cons, List.map_nil, hs, hx, hrun]
  exact hK _ _ (h v' w' h2)

theorem wpList_app1_nil {ops : Array Oper} {rest : List Oper} {o : Oper} {a : Act} {Q : Exit → Act → World → Prop} (hgd : o.guard = none) (s x : Operand) (t e : TypeId)
    (ho : o.op = .call { callee := .builtin .append, args := #[s, x], argTypes := #[t, t] })
    {z : Value} {bytes : Nat} (ht : P.underlying t = some (.slice e)) (hi : (P.info? e).map (fun i => (i.zero, i.size, i.bytes)) = some (some z, 1, bytes)) (hz1 : z.cells.size = 1)
    (hs : a.eval s = .slice none 0 0) (ad : Addr) (m c : Nat) (news : List Value) (hx : a.eval x = .slice (some ad) m c) (hl : news.length = m) (hnews : ∀ j u, news[j]? = some u → w.cell? (ad.add j) = some u)
    (hm : 0 < m) (hb : m * bytes ≤ 140737488355328) (h63 : m ≤ maxLen)
    (h : ∀ cap' w', m ≤ cap' → cap' ≤ maxLen → Row1 w' e w.heap.size cap' news → Old w w' → w'.heap.size = w.heap.size + 1 → wpList P ops Q rest (a.put o.dst (.slice (some ⟨w.heap.size, 0, none⟩) m cap')) w') : wpList P ops Q (o :: rest) a w := by
  refine wpList_plain hgd fun K hK => ?_
  obtain ⟨cap', w', hrun, h2, h3, h4, h5, h6⟩ := run_app1_nil (P := P) w t o.type e ht hi hz1 ad m c news hl hnews hm hb h63
  unfold Oper.wp execOp
  simp only [ho, resolve, invoke, builtin, Sem.run_bind, Sem.run_pure, Result.andThen_ok, List.map_toArray, List.map_cons, List.map_nil, hs, hx, hrun]
  exact hK _ _ (h cap' w' h2 h3 h4 h5 h6)
end
end Go.Proofs.Ytgnndggbjipioaa
