/- weftlaw12.Book: what it holds in memory; keep. Conditions: the book lies; the list begins a block that nobody else has. -/
import Derived.Test.YtgnndggbjipioaaABook
namespace Go.Proofs.Ytgnndggbjipioaa
open Go.RowKit

/-- A list that holds its mark. -/
def PatV (S : Nat → Prop) (w : World) (v : Value) (m : Nat) : Prop := ∃ A n c, v = .slice A n c ∧ n ≤ c ∧ Bts S w A (pats m n)
/-- A list of packets, all of them to one place and without bytes. -/
def HeadV (S : Nat → Prop) (w : World) (v : Value) (x : Int) : Prop := ∃ A n c, v = .slice A n c ∧ n ≤ c ∧ Pks S w A (List.replicate n (x, []))

theorem PatV.keep {S : Nat → Prop} {w w' : World} {v : Value} {m : Nat} (h : PatV S w v m) (hk : Keeps S w w') : PatV S w' v m := by
  obtain ⟨A, n, c, e, h1, h2⟩ := h
  exact ⟨A, n, c, e, h1, h2.keep hk⟩
theorem PatV.mono {S T : Nat → Prop} {w : World} {v : Value} {m : Nat} (h : PatV S w v m) (hT : ∀ k, S k → T k) : PatV T w v m := by
  obtain ⟨A, n, c, e, h1, h2⟩ := h
  exact ⟨A, n, c, e, h1, h2.mono' hT⟩
theorem HeadV.keep {S : Nat → Prop} {w w' : World} {v : Value} {x : Int} (h : HeadV S w v x) (hk : Keeps S w w') : HeadV S w' v x := by
  obtain ⟨A, n, c, e, h1, h2⟩ := h
  exact ⟨A, n, c, e, h1, h2.keep hk⟩
theorem HeadV.mono {S T : Nat → Prop} {w : World} {v : Value} {x : Int} (h : HeadV S w v x) (hT : ∀ k, S k → T k) : HeadV T w v x := by
  obtain ⟨A, n, c, e, h1, h2⟩ := h
  exact ⟨A, n, c, e, h1, h2.mono fun k _ hk => hT k hk⟩

/-- A book at block p: K: the blocks of what it keeps; M: its own. -/
structure BookM (K M : Nat → Prop) (w : World) (p : Nat) (vL vM vO : Value) (es : List (Value × Nat)) (os : List (Value × Int)) (size : Nat) : Prop where
  head : w.heap[p]? = some (.cells #[vL, vM, .int .i64 (size : Int), vO] 63 (0, 0))
  l : w.ownsRow 0 46 1 vL es.length (es.map (·.1))
  lf : ∀ k, vL.ownBlock = some k → M k
  m : w.ownsRow 0 3 1 vM es.length (es.map fun e => .int .i64 (e.2 : Int))
  mf : ∀ k, vM.ownBlock = some k → M k
  o : w.ownsRow 0 34 1 vO os.length (os.map (·.1))
  of : ∀ k, vO.ownBlock = some k → M k
  ents : ∀ e ∈ es, PatV K w e.1 e.2
  outs : ∀ e ∈ os, HeadV K w e.1 e.2
  fp : M p
  apart : ∀ k, K k → ¬ M k
  lt : ∀ k, K k ∨ M k → k < w.heap.size
  ml : ∀ e ∈ es, e.2 ≤ 4611686018427387904

section
variable {K M : Nat → Prop} {w w' w4 : World} {p : Nat} {vL vM vO : Value} {es : List (Value × Nat)} {os : List (Value × Int)} {size : Nat}
theorem BookM.keep (h : BookM K M w p vL vM vO es os size) (hk : Keeps (fun k => K k ∨ M k) w w') : BookM K M w' p vL vM vO es os size :=
  ⟨hk.heap h.head (.inr h.fp), own_keeps h.l hk (fun k hk => .inr (h.lf k hk)), h.lf, own_keeps h.m hk (fun k hk => .inr (h.mf k hk)), h.mf, own_keeps h.o hk (fun k hk => .inr (h.of k hk)), h.of,
    fun e he => (h.ents e he).keep (hk.mono fun _ _ hs => .inl hs), fun e he => (h.outs e he).keep (hk.mono fun _ _ hs => .inl hs), h.fp, h.apart, fun k hk' => Nat.lt_of_lt_of_le (h.lt k hk') hk.size, h.ml⟩
theorem BookM.parts (h : BookM K M w p vL vM vO es os size) : vL.ownBlock ≠ some p ∧ vM.ownBlock ≠ some p ∧ vO.ownBlock ≠ some p ∧ (∀ k, vL.ownBlock = some k → vM.ownBlock ≠ some k ∧ vO.ownBlock ≠ some k) ∧ (∀ k, vM.ownBlock = some k → vO.ownBlock ≠ some k) :=
  ⟨own_ne_heap h.l h.head (by decide), own_ne_heap h.m h.head (by decide), own_ne_heap h.o h.head (by decide), fun _ hk => ⟨own_ne h.l h.m (by decide) hk, own_ne h.l h.o (by decide) hk⟩, fun _ hk => own_ne h.m h.o (by decide) hk⟩
/-- Another number. -/
theorem BookM.setSize (h : BookM K M w p vL vM vO es os size) (s : Nat) : BookM K M (w.setCell ⟨p, 2, none⟩ (.int .i64 (s : Int))) p vL vM vO es os s := by
  obtain ⟨a1, a2, a3, _⟩ := h.parts
  have KS : Keeps (· ≠ p) w (w.setCell ⟨p, 2, none⟩ (.int .i64 (s : Int))) := (Keeps.refl _ _).setCell (fun _ h => h rfl) _
  refine ⟨by rw [heap_setCell h.head]; rfl, own_keeps h.l KS (fun k hk e => a1 (by rw [hk, e])), h.lf, own_keeps h.m KS (fun k hk e => a2 (by rw [hk, e])), h.mf, own_keeps h.o KS (fun k hk e => a3 (by rw [hk, e])), h.of,
    fun e he => (h.ents e he).keep (KS.mono fun k _ hs e => h.apart k hs (by rw [e]; exact h.fp)), fun e he => (h.outs e he).keep (KS.mono fun k _ hs e => h.apart k hs (by rw [e]; exact h.fp)), h.fp, h.apart, fun k hk => Nat.lt_of_lt_of_le (h.lt k hk) KS.size, h.ml⟩
/-- Lists and marks more. -/
theorem BookM.pushL {v2 : Value} {ns : List Value} (h : BookM K M w p vL vM vO es os size) (KL : Keeps (fun k => vL.ownBlock ≠ some k) w w4) (hown : w4.ownsRow 0 46 1 v2 (es.length + ns.length) (es.map (·.1) ++ ns)) (hat : v2.ownBlock = vL.ownBlock ∨ v2.ownBlock = some w.heap.size) :
    ∃ w5, w5 = w4.setCell ⟨p, 0, none⟩ v2 ∧ w5.heap[p]? = some (.cells #[v2, vM, .int .i64 (size : Int), vO] 63 (0, 0)) ∧ w5.ownsRow 0 46 1 v2 (es.length + ns.length) (es.map (·.1) ++ ns) ∧ w5.ownsRow 0 3 1 vM es.length (es.map fun e => .int .i64 (e.2 : Int)) ∧ w5.ownsRow 0 34 1 vO os.length (os.map (·.1)) ∧
      Keeps (fun k => ¬ M k) w w5 ∧ (∀ k, v2.ownBlock = some k → M k ∨ w.heap.size ≤ k) ∧ v2.ownBlock ≠ some p := by
  obtain ⟨a1, a2, a3, a4, a5⟩ := h.parts
  have hh := KL.heap h.head a1
  have KS : Keeps (· ≠ p) w4 (w4.setCell ⟨p, 0, none⟩ v2) := (Keeps.refl _ _).setCell (fun _ h => h rfl) _
  have KB : Keeps (fun k => k ≠ p ∧ vL.ownBlock ≠ some k) w (w4.setCell ⟨p, 0, none⟩ v2) := (KL.mono fun _ _ h => h.2).trans KS fun _ _ h => h.1
  have hv2 : v2.ownBlock ≠ some p := own_ne_heap hown hh (by decide)
  exact ⟨_, rfl, by rw [heap_setCell hh]; rfl, own_keeps hown KS (fun k hk e => hv2 (by rw [hk, e])), own_keeps h.m KB (fun k hk => ⟨fun e => a2 (by rw [hk, e]), fun e => (a4 k e).1 hk⟩), own_keeps h.o KB (fun k hk => ⟨fun e => a3 (by rw [hk, e]), fun e => (a4 k e).2 hk⟩),
    KB.mono fun k _ hn => ⟨fun e => hn (by rw [e]; exact h.fp), fun e => hn (h.lf k e)⟩, fun k hk => by
      rcases hat with e | e
      · rw [e] at hk; exact .inl (h.lf k hk)
      · rw [e] at hk; injection hk with hk; right; omega, hv2⟩
end

/-- the first f places of the block hold the mark -/
def PatB (w : World) (m b c f : Nat) : Prop := Row1 w 5 b c ((pats m f).map bv)
section
variable {S : Nat → Prop} {w w' : World} {m b c f : Nat}
theorem PatB.le (h : PatB w m b c f) : f ≤ c := by have := Row1.le h; rwa [List.length_map, pats_length] at this
theorem PatB.less (h : PatB w m b c f) {f' : Nat} (hf : f' ≤ f) : PatB w m b c f' := by
  have := Row1.take h f'
  rwa [← List.map_take, pats_take m hf] at this
theorem PatB.bts (h : PatB w m b c f) {n : Nat} (hn : n ≤ f) (hl : n ≤ 281474976710656) : Bts (fun k => k = b) w (some ⟨b, 0, none⟩) (pats m n) := by
  refine ⟨by rw [pats_length]; exact hl, fun _ => ⟨b, 0, rfl, rfl, fun j hj => ?_⟩⟩
  have hj' : j < n := by rwa [pats_length] at hj
  rw [Nat.zero_add, Row1.cell h (by rw [List.length_map, pats_length]; omega), List.getElem?_map, pats_get m f (by omega)]
  have := pats_get m n hj'
  rw [List.getElem?_eq_getElem hj] at this
  rw [Option.some.inj this]
  rfl
theorem PatB.step (h : PatB w m b c f) (hf : f < c) : PatB (w.setCell ⟨b, f, none⟩ (bv (patB m f))) m b c (f + 1) := by
  have := Row1.push h (by rw [List.length_map, pats_length]; exact hf) (bv (patB m f))
  rw [List.length_map, pats_length] at this
  unfold PatB
  rw [pats_succ, List.map_append]
  exact this

/-- the next r of a mark's bytes from n on -/
def nextP (m n r : Nat) : List Value := (List.range r).map fun i => bv (patB m (n + i))
theorem nextP_length (m n r : Nat) : (nextP m n r).length = r := by simp [nextP]

theorem pat_splice {n r : Nat} (hn : n ≤ f) : ((pats m f).map bv).take n ++ nextP m n r ++ ((pats m f).map bv).drop (n + r) = (pats m (max f (n + r))).map bv := by
  apply List.ext_getElem?
  intro i
  have hl : (((pats m f).map bv).take n).length = n := by rw [List.length_take, List.length_map, pats_length]; omega
  have hl2 : (((pats m f).map bv).take n ++ nextP m n r).length = n + r := by rw [List.length_append, hl, nextP_length]
  by_cases h1 : i < n
  · rw [List.getElem?_append_left (by omega), List.getElem?_append_left (by omega), List.getElem?_take, if_pos h1, List.getElem?_map, List.getElem?_map, pats_get m f (by omega), pats_get m _ (by omega)]
  · by_cases h2 : i < n + r
    · rw [List.getElem?_append_left (by omega), List.getElem?_append_right (by omega), hl, List.getElem?_map, pats_get m _ (by omega)]
      unfold nextP
      rw [List.getElem?_map, List.getElem?_range (by omega)]
      simp only [Option.map_some]
      rw [show n + (i - n) = i by omega]
    · rw [List.getElem?_append_right (by omega), hl2, List.getElem?_drop, show n + r + (i - (n + r)) = i by omega, List.getElem?_map, List.getElem?_map]
      by_cases h3 : i < f
      · rw [pats_get m f h3, pats_get m _ (by omega)]
      · rw [List.getElem?_eq_none (by rw [pats_length]; omega), List.getElem?_eq_none (by rw [pats_length]; omega)]

/-- An append of a mark's next bytes onto a block's first n. -/
theorem app_pat {n r : Nat} {v : Value} (h : App1 w 5 b c n ((pats m f).map bv) (nextP m n r) v w') (hr : PatB w m b c f) (hn : n ≤ f) (hc : c ≤ maxLen) :
    ∃ b' c' f', v = .slice (some ⟨b', 0, none⟩) (n + r) c' ∧ n + r ≤ c' ∧ c' ≤ maxLen ∧ f ≤ f' ∧ PatB w' m b c f' ∧ ((b' = b ∧ c' = c ∧ n + r ≤ f') ∨ (b' = w.heap.size ∧ PatB w' m b' c' (n + r) ∧ c < n + r)) ∧ Keeps (· ≠ b) w w' ∧ w.heap.size ≤ w'.heap.size := by
  unfold App1 at h
  rw [nextP_length] at h
  rcases h with ⟨h1, h2, h3, h4, h5⟩ | ⟨h1, c', h2, h3, h4, h5, h6, h7⟩
  · rw [pat_splice hn] at h3
    exact ⟨b, c, max f (n + r), h2, h1, hc, by omega, h3, .inl ⟨rfl, rfl, by omega⟩, h4, by omega⟩
  · have e : ((pats m f).map bv).take n ++ nextP m n r = (pats m (n + r)).map bv := by
      have := pat_splice (m := m) (f := n) (n := n) (r := r) (Nat.le_refl _)
      rw [List.take_of_length_le (by rw [List.length_map, pats_length]; exact Nat.le_refl _), List.drop_of_length_le (by rw [List.length_map, pats_length]; omega), List.append_nil, Nat.max_eq_right (by omega)] at this
      rw [← List.map_take, pats_take m hn]
      exact this
    rw [e] at h5
    exact ⟨w.heap.size, c', f, h4, h2, h3, Nat.le_refl _, hr.keep h6 trivial, .inr ⟨rfl, h5, h1⟩, h6.mono fun _ _ _ => trivial, by omega⟩
end
end Go.Proofs.Ytgnndggbjipioaa
