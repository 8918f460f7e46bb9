/- weftlaw12.Place: what it holds in memory; put. Conditions: the place lies; the bytes are nobody's of it. weftlaw12.Place.put: bytes laid into a place. Conditions: the place lies; the bytes are nobody's of it. weftlaw12.Place.list: records laid into places of their own, their list too. Conditions: the place lies; the records are nobody's of it. -/
import Derived.Test.YtdpaaoeipconcaaDoorMKeep
namespace Go.Proofs.YtdpaaoeipconcaaDoor
open Go.RowKit

/-- A place at block t: P: its own blocks. -/
structure PlaceM (P : Nat → Prop) (w : World) (t : Nat) (vO vI : Value) (outs inn : List Value) : Prop where
  head : w.heap[t]? = some (.cells #[vO, vI] 119 (0, 0))
  o : w.ownsRow 0 22 1 vO outs.length outs
  of : ∀ k, vO.ownBlock = some k → P k
  i : w.ownsRow 0 22 1 vI inn.length inn
  if_ : ∀ k, vI.ownBlock = some k → P k
  each : ∀ x ∈ inn, ∃ bs, bs ≠ [] ∧ OwnB P w x bs
  ft : P t
  lt : ∀ k, P k → k < w.heap.size
  oi : ∀ k, vO.ownBlock = some k → vI.ownBlock ≠ some k
  dis : inn.Pairwise fun x y => ∀ k, x.ownBlock = some k → y.ownBlock ≠ some k

section
variable {P : Nat → Prop} {w w' w1 w4 : World} {t : Nat} {vO vI : Value} {outs inn : List Value}
theorem PlaceM.keep (h : PlaceM P w t vO vI outs inn) (hk : Keeps P w w') : PlaceM P w' t vO vI outs inn :=
  ⟨hk.heap h.head h.ft, own_keeps h.o hk h.of, h.of, own_keeps h.i hk h.if_, h.if_, fun x hx => by
    obtain ⟨bs, hne, hb⟩ := h.each x hx
    exact ⟨bs, hne, hb.keep hk⟩, h.ft, fun k hk' => Nat.lt_of_lt_of_le (h.lt k hk') hk.size, h.oi, h.dis⟩
theorem PlaceM.parts (h : PlaceM P w t vO vI outs inn) : vO.ownBlock ≠ some t ∧ vI.ownBlock ≠ some t ∧ ∀ x ∈ inn, x.ownBlock ≠ some t ∧ (∀ k, x.ownBlock = some k → vO.ownBlock ≠ some k ∧ vI.ownBlock ≠ some k) :=
  ⟨own_ne_heap h.o h.head (by decide), own_ne_heap h.i h.head (by decide), fun x hx => by
    obtain ⟨bs, _, hb⟩ := h.each x hx
    exact ⟨own_ne_heap hb.row h.head (by decide), fun k hk => ⟨own_ne hb.row h.o (by decide) hk, own_ne hb.row h.i (by decide) hk⟩⟩⟩
/-- One inner list more. -/
theorem PlaceM.push {v v2 : Value} {bs : List UInt8} (h : PlaceM P w t vO vI outs inn) (K1 : Old w w1) (hne : bs ≠ []) (hv : OwnB (fun k => w.heap.size ≤ k) w1 v bs) (K : Keeps (fun k => vI.ownBlock ≠ some k) w1 w4) (hown : w4.ownsRow 0 22 1 v2 (inn.length + 1) (inn ++ [v])) (hat : ∀ k, v2.ownBlock = some k → vI.ownBlock = some k ∨ w.heap.size ≤ k) :
    PlaceM (fun k => P k ∨ v.ownBlock = some k ∨ v2.ownBlock = some k) (w4.setCell ⟨t, 1, none⟩ v2) t vO v2 outs (inn ++ [v]) ∧ Keeps (fun k => k ≠ t ∧ vI.ownBlock ≠ some k) w (w4.setCell ⟨t, 1, none⟩ v2) := by
  obtain ⟨a1, a2, a3⟩ := h.parts
  have hz1 := K1.size
  have hh4 := K.heap (K1.heap h.head trivial) a2
  have KS : Keeps (· ≠ t) w4 (w4.setCell ⟨t, 1, none⟩ v2) := (Keeps.refl _ _).setCell (fun _ h => h rfl) _
  have KB : Keeps (fun k => k ≠ t ∧ vI.ownBlock ≠ some k) w (w4.setCell ⟨t, 1, none⟩ v2) := (((K1.old _).trans' (K.mono fun _ _ h => h.2)) : Keeps (fun k => k ≠ t ∧ vI.ownBlock ≠ some k) w w4).trans' (KS.mono fun _ _ h => h.1)
  have hv4 : w4.ownsRow 0 5 1 v bs.length (bs.map bv) := own_keeps hv.row K (fun k hk e => own_ne hv.row (own_keeps h.i K1 (fun _ _ => trivial)) (by decide) hk e)
  have hvt : v.ownBlock ≠ some t := fun e => by have h1 := hv.foot t e; have h2 := h.lt t h.ft; omega
  have hv2t : v2.ownBlock ≠ some t := own_ne_heap hown hh4 (by decide)
  refine ⟨⟨by rw [heap_setCell hh4]; rfl, own_keeps h.o KB fun k hk => ⟨fun e => a1 (by rw [hk, e]), h.oi k hk⟩, fun k hk => .inl (h.of k hk), ?_, fun k hk => .inr (.inr hk), fun x hx => ?_, .inl h.ft, fun k hk => ?_, fun k hk e => ?_, ?_⟩, KB⟩
  · rw [List.length_append]
    exact own_keeps hown KS fun k hk e => hv2t (by rw [hk, e])
  · rcases List.mem_append.1 hx with hx | hx
    · obtain ⟨bs', hne', hb⟩ := h.each x hx
      obtain ⟨b1, b2⟩ := a3 x hx
      exact ⟨bs', hne', own_keeps hb.row KB fun k hk => ⟨fun e => b1 (by rw [hk, e]), (b2 k hk).2⟩, fun k hk => .inl (hb.foot k hk), hb.len⟩
    · obtain rfl : x = v := by simpa using hx
      exact ⟨bs, hne, own_keeps hv4 KS fun k hk e => hvt (by rw [hk, e]), fun k hk => .inr (.inl hk), hv.len⟩
  · rcases hk with hk | hk | hk
    · exact Nat.lt_of_lt_of_le (h.lt k hk) KB.size
    · exact Nat.lt_of_lt_of_le (own_lt hv4 hk) KS.size
    · exact Nat.lt_of_lt_of_le (own_lt hown hk) KS.size
  · rcases hat k e with h1 | h1
    · exact h.oi k hk h1
    · have := h.lt k (h.of k hk); omega
  · refine List.pairwise_append.2 ⟨h.dis, List.pairwise_singleton _ _, fun x hx y hy k hk => ?_⟩
    obtain rfl : y = v := by simpa using hy
    intro e
    obtain ⟨bs', _, hb⟩ := h.each x hx
    have h1 := h.lt k (hb.foot k hk)
    have h2 := hv.foot k e
    omega
/-- Another inner list at a place. -/
theorem PlaceM.setI {v : Value} {bs : List UInt8} {gI cI i n : Nat} (h : PlaceM P w t vO (.slice (some ⟨gI, 0, none⟩) n cI) outs inn) (_ : i < inn.length) (hn : n = inn.length) (K1 : Old w w1) (hne : bs ≠ []) (hv : OwnB (fun k => w.heap.size ≤ k) w1 v bs) :
    PlaceM (fun k => P k ∨ v.ownBlock = some k) (w1.setCell ⟨gI, i, none⟩ v) t vO (.slice (some ⟨gI, 0, none⟩) n cI) outs (inn.set i v) ∧ Keeps (· ≠ gI) w (w1.setCell ⟨gI, i, none⟩ v) := by
  subst hn
  obtain ⟨a1, a2, a3⟩ := h.parts
  have hz1 := K1.size
  have KS : Keeps (· ≠ gI) w1 (w1.setCell ⟨gI, i, none⟩ v) := (Keeps.refl _ _).setCell (fun _ h => h rfl) _
  have KB : Keeps (· ≠ gI) w (w1.setCell ⟨gI, i, none⟩ v) := (K1.old _).trans' KS
  have hgb : (Value.slice (some ⟨gI, 0, none⟩) inn.length cI).ownBlock = some gI := rfl
  obtain ⟨_, _, hcc, _, hcm⟩ := own_slice h.i
  injection hcc with _ _ hcc
  subst hcc
  have hgl := h.lt gI (h.if_ gI hgb)
  have hrow := (Row1.ofOwn (own_keeps h.i K1 (fun _ _ => trivial))).set i v
  refine ⟨⟨KB.heap h.head (fun e => a2 (by rw [hgb, e])), own_keeps h.o KB (fun k hk e => h.oi k hk (by rw [hgb, e])), fun k hk => .inl (h.of k hk), ?_, fun k hk => .inl (h.if_ k hk), fun x hx => ?_, .inl h.ft, fun k hk => ?_, h.oi, ?_⟩, KB⟩
  · rw [List.length_set]
    exact hrow.own (by simp) hcm
  · rcases List.mem_or_eq_of_mem_set hx with hx | rfl
    · obtain ⟨bs', hne', hb⟩ := h.each x hx
      exact ⟨bs', hne', own_keeps hb.row KB (fun k hk e => ((a3 x hx).2 k hk).2 (by rw [hgb, e])), fun k hk => .inl (hb.foot k hk), hb.len⟩
    · exact ⟨bs, hne, own_keeps hv.row KS (fun k hk e => by have h1 := hv.foot k hk; have h1' : w.heap.size ≤ k := h1; omega), fun k hk => .inr hk, hv.len⟩
  · rcases hk with hk | hk
    · exact Nat.lt_of_lt_of_le (h.lt k hk) KB.size
    · exact Nat.lt_of_lt_of_le (own_lt hv.row hk) KS.size
  · rw [List.pairwise_iff_getElem]
    intro a b ha hb hab k hk e
    rw [List.length_set] at ha hb
    have hd := List.pairwise_iff_getElem.1 h.dis a b ha hb hab
    have old : ∀ j (hj : j < inn.length) k, inn[j].ownBlock = some k → k < w.heap.size := fun j hj k hk => by
      obtain ⟨bs', _, hb'⟩ := h.each _ (List.getElem_mem hj)
      exact h.lt k (hb'.foot k hk)
    have fresh : ∀ k, v.ownBlock = some k → w.heap.size ≤ k := fun k hk => hv.foot k hk
    rw [List.getElem_set] at hk e
    split at hk <;> split at e
    · omega
    · have h1 := fresh k hk; have h2 := old b hb k e; omega
    · have h1 := fresh k e; have h2 := old a ha k hk; omega
    · exact hd k hk e
end

/-- The bytes lie in the i-th inner list; nothing else has changed but the place's own. -/
def PostPlace (P : Nat → Prop) (w : World) (t i : Nat) (vO : Value) (outs inn : List Value) (bs : List UInt8) (e : Ending) (w' : World) : Prop :=
  ∃ P' vI' inn' g c, e = .returned (.slice (some ⟨g, 0, none⟩) bs.length c) ∧ bs.length ≤ c ∧ PlaceM P' w' t vO vI' outs inn' ∧ Bts (fun k => k = g) w' (some ⟨g, 0, none⟩) bs ∧ inn'[i]?.bind Value.ownBlock = some g ∧
    (∀ j, j < inn.length → j ≠ i → inn'[j]? = inn[j]?) ∧ inn.length ≤ inn'.length ∧ inn'.length ≤ max inn.length (i + 1) ∧ (∀ k, P' k → P k ∨ w.heap.size ≤ k) ∧
    Keeps (fun k => ¬ P k ∨ vO.ownBlock = some k ∨ ∃ j x, j ≠ i ∧ inn[j]? = some x ∧ x.ownBlock = some k) w w'

def innLen (t : Nat) (w : World) : Nat := match w.cell? ⟨t, 1, none⟩ with
  | some (.slice _ n _) => n
  | _ => 0
theorem innLen_of {t : Nat} {w : World} {A : Option Addr} {n c : Nat} (h : w.cell? ⟨t, 1, none⟩ = some (.slice A n c)) : innLen t w = n := by unfold innLen; rw [h]

/-- ahead of a round of the first loop -/
def InPut (P : Nat → Prop) (w : World) (t i : Nat) (vO vI : Value) (outs inn : List Value) (wr : World) : Prop :=
  ∃ P' vI' news, PlaceM P' wr t vO vI' outs (inn ++ news) ∧ (inn ++ news).length ≤ max inn.length (i + 1) ∧ (∀ k, P' k → P k ∨ w.heap.size ≤ k) ∧ (∀ k, vI'.ownBlock = some k → vI.ownBlock = some k ∨ w.heap.size ≤ k) ∧ Keeps (fun k => k ≠ t ∧ vI.ownBlock ≠ some k) w wr

abbrev zerosP (N : Nat) : List UInt8 := List.replicate N 0
theorem made_own {w : World} {N : Nat} (hN : N ≤ 140737488355327) : OwnB (fun k => w.heap.size ≤ k) (w.alloc (.cells (madeCells #[.int .u8 0] N) 5)) (.slice (some ⟨w.heap.size, 0, none⟩) N N) (zerosP N) := by
  have hr : (w.alloc (.cells (madeCells #[.int .u8 0] N) 5)).heap[w.heap.size]? = some (.cells ((zerosP N).map bv).toArray 5 (0, 0)) := by
    rw [heap_alloc_new, List.map_replicate, ← toList_madeCells_one]
    rfl
  have hrow : Row1 (w.alloc (.cells (madeCells #[.int .u8 0] N) 5)) 5 w.heap.size N ((zerosP N).map bv) := ⟨_, hr, by simp, by simp, by simp⟩
  exact ⟨by
    have h := hrow.own (n := N) (by simp) (by unfold maxLen; omega)
    simpa using h, fun k hk => by
    have e : w.heap.size = k := by simpa [Value.ownBlock] using hk
    show w.heap.size ≤ k
    omega, by simp; omega⟩

section
variable {P : Nat → Prop} {w w' w1 : World} {t : Nat} {vO vI : Value} {outs inn : List Value}
/-- An inner list's bytes are other ones. -/
theorem PlaceM.fill {i g n c : Nat} {zs : List UInt8} (h : PlaceM P w t vO vI outs inn) (hi : inn[i]? = some (.slice (some ⟨g, 0, none⟩) n c)) (K : Keeps (· ≠ g) w w') (hr : Row1 w' 5 g c (zs.map bv)) (hz : zs.length = n) (hn : 0 < n) (hl : n ≤ 281474976710656) (hc : c ≤ maxLen) : PlaceM P w' t vO vI outs inn := by
  obtain ⟨a1, a2, a3⟩ := h.parts
  obtain ⟨hil, hie⟩ := List.getElem?_eq_some_iff.1 hi
  have hm : (Value.slice (some ⟨g, 0, none⟩) n c) ∈ inn := hie ▸ List.getElem_mem hil
  obtain ⟨b1, b2⟩ := a3 _ hm
  have hgb : (Value.slice (some ⟨g, 0, none⟩) n c).ownBlock = some g := rfl
  obtain ⟨b3, b4⟩ := b2 g hgb
  have hPg : P g := by
    obtain ⟨bs, _, hb⟩ := h.each _ hm
    exact hb.foot g hgb
  refine ⟨K.heap h.head (fun e => b1 (by rw [hgb, e])), own_keeps h.o K (fun k hk e => b3 (by rw [← e]; exact hk)), h.of, own_keeps h.i K (fun k hk e => b4 (by rw [← e]; exact hk)), h.if_, fun x hx => ?_, h.ft, fun k hk => Nat.lt_of_lt_of_le (h.lt k hk) K.size, h.oi, h.dis⟩
  obtain ⟨j, hj, rfl⟩ := List.getElem_of_mem hx
  by_cases hji : j = i
  · subst hji
    rw [hie]
    have hnz : zs ≠ [] := fun e => by rw [e] at hz; simp at hz; omega
    have ho := hr.own (n := n) (by rw [List.length_map]; omega) hc
    exact ⟨zs, hnz, ⟨by rw [hz]; exact ho, fun k hk => by
      have e : g = k := by simpa [Value.ownBlock] using hk
      rw [← e]; exact hPg, by omega⟩⟩
  · obtain ⟨bs, hne, hb⟩ := h.each inn[j] hx
    refine ⟨bs, hne, own_keeps hb.row K (fun k hk e => ?_), hb.foot, hb.len⟩
    subst e
    have hd := List.pairwise_iff_getElem.1 h.dis
    rcases Nat.lt_or_gt_of_ne hji with hlt | hlt
    · exact hd j i hj hil hlt k hk (by rw [hie]; rfl)
    · exact hd i j hil hj hlt k (by rw [hie]; rfl) hk
/-- Another outer list. -/
theorem PlaceM.newO {v : Value} {outs2 : List Value} (h : PlaceM P w t vO vI outs inn) (K1 : Old w w1) (hv : w1.ownsRow 0 22 1 v outs2.length outs2) (hb : ∀ k, v.ownBlock = some k → w.heap.size ≤ k) :
    PlaceM (fun k => P k ∨ v.ownBlock = some k) (w1.setCell ⟨t, 0, none⟩ v) t v vI outs2 inn ∧ Keeps (· ≠ t) w (w1.setCell ⟨t, 0, none⟩ v) := by
  obtain ⟨a1, a2, a3⟩ := h.parts
  have hh1 := K1.heap h.head trivial
  have KS : Keeps (· ≠ t) w1 (w1.setCell ⟨t, 0, none⟩ v) := (Keeps.refl _ _).setCell (fun _ h => h rfl) _
  have KB : Keeps (· ≠ t) w (w1.setCell ⟨t, 0, none⟩ v) := (K1.old _).trans' KS
  have hvt : v.ownBlock ≠ some t := fun e => by have h1 := hb t e; have h2 := h.lt t h.ft; omega
  refine ⟨⟨by rw [heap_setCell hh1]; rfl, own_keeps hv KS (fun k hk e => hvt (by rw [hk, e])), fun k hk => .inr hk, own_keeps h.i KB (fun k hk e => a2 (by rw [hk, e])), fun k hk => .inl (h.if_ k hk), fun x hx => ?_, .inl h.ft, fun k hk => ?_, fun k hk e => ?_, h.dis⟩, KB⟩
  · obtain ⟨bs, hne, hx'⟩ := h.each x hx
    exact ⟨bs, hne, own_keeps hx'.row KB (fun k hk e => (a3 x hx).1 (by rw [hk, e])), fun k hk => .inl (hx'.foot k hk), hx'.len⟩
  · rcases hk with hk | hk
    · exact Nat.lt_of_lt_of_le (h.lt k hk) KB.size
    · exact Nat.lt_of_lt_of_le (own_lt hv hk) KS.size
  · have h1 := hb k hk
    have h2 := h.lt k (h.if_ k e)
    omega
/-- Another value at a place of the outer list. -/
theorem PlaceM.setO {v : Value} {gO cO i n : Nat} (h : PlaceM P w t (.slice (some ⟨gO, 0, none⟩) n cO) vI outs inn) (hn : n = outs.length) :
    PlaceM P (w.setCell ⟨gO, i, none⟩ v) t (.slice (some ⟨gO, 0, none⟩) n cO) vI (outs.set i v) inn ∧ Keeps (· ≠ gO) w (w.setCell ⟨gO, i, none⟩ v) := by
  subst hn
  obtain ⟨a1, a2, a3⟩ := h.parts
  have KS : Keeps (· ≠ gO) w (w.setCell ⟨gO, i, none⟩ v) := (Keeps.refl _ _).setCell (fun _ h => h rfl) _
  have hgb : (Value.slice (some ⟨gO, 0, none⟩) outs.length cO).ownBlock = some gO := rfl
  obtain ⟨_, _, hcc, _, hcm⟩ := own_slice h.o
  injection hcc with _ _ hcc
  subst hcc
  have hrow := (Row1.ofOwn h.o).set i v
  refine ⟨⟨KS.heap h.head (fun e => a1 (by rw [hgb, e])), ?_, h.of, own_keeps h.i KS (fun k hk e => h.oi gO hgb (by rw [← e]; exact hk)), h.if_, fun x hx => ?_, h.ft, fun k hk => Nat.lt_of_lt_of_le (h.lt k hk) KS.size, h.oi, h.dis⟩, KS⟩
  · rw [List.length_set]
    exact hrow.own (by simp) hcm
  · obtain ⟨bs, hne, hb⟩ := h.each x hx
    exact ⟨bs, hne, own_keeps hb.row KS (fun k hk e => ((a3 x hx).2 k hk).1 (by rw [hgb, e])), hb.foot, hb.len⟩
end

theorem Row1.bts {w : World} {g c : Nat} {zs : List UInt8} (h : Row1 w 5 g c (zs.map bv)) {n : Nat} (hn : n ≤ zs.length) (hl : n ≤ 281474976710656) : Bts (fun k => k = g) w (some ⟨g, 0, none⟩) (zs.take n) := by
  have hln : (zs.take n).length = n := by rw [List.length_take]; omega
  refine ⟨by rw [hln]; exact hl, fun _ => ⟨g, 0, rfl, rfl, fun j hj => ?_⟩⟩
  rw [hln] at hj
  rw [Nat.zero_add, h.cell (by rw [List.length_map]; omega), List.getElem?_map, List.getElem?_eq_getElem (by omega), List.getElem_take]
  rfl

/-- behind the second 'if' of put: the i-th inner list has room -/
def PutMid (P : Nat → Prop) (w : World) (t i : Nat) (vO : Value) (outs inn : List Value) (m : Nat) (wx : World) : Prop :=
  ∃ P' vI' q g n c, PlaceM P' wx t vO vI' outs q ∧ q[i]? = some (.slice (some ⟨g, 0, none⟩) n c) ∧ m ≤ n ∧ 0 < n ∧ n ≤ 281474976710656 ∧
    (∀ j, j < inn.length → j ≠ i → q[j]? = inn[j]?) ∧ inn.length ≤ q.length ∧ q.length ≤ max inn.length (i + 1) ∧ (∀ k, P' k → P k ∨ w.heap.size ≤ k) ∧
    Keeps (fun k => ¬ P k ∨ vO.ownBlock = some k ∨ ∃ j x, j ≠ i ∧ inn[j]? = some x ∧ x.ownBlock = some k) w wx

theorem fill_step (bs ys : List UInt8) (k : Nat) (hk : k < bs.length) (hl : bs.length ≤ ys.length) : ((bs.take k ++ ys.drop k).map bv).set k (bv bs[k]) = (bs.take (k + 1) ++ ys.drop (k + 1)).map bv := by
  apply List.ext_getElem?
  intro i
  rw [List.getElem?_set]
  have h1 : (bs.take k).length = k := by rw [List.length_take]; omega
  have h2 : (bs.take (k + 1)).length = k + 1 := by rw [List.length_take]; omega
  by_cases hik : k = i
  · subst hik
    rw [if_pos rfl, if_pos (by rw [List.length_map, List.length_append, h1, List.length_drop]; omega), List.getElem?_map, List.getElem?_append_left (by omega), List.getElem?_take, if_pos (by omega), List.getElem?_eq_getElem hk]
    rfl
  · rw [if_neg hik, List.getElem?_map, List.getElem?_map]
    by_cases hlt : i < k
    · rw [List.getElem?_append_left (by omega), List.getElem?_append_left (by omega), List.getElem?_take, List.getElem?_take, if_pos hlt, if_pos (by omega)]
    · rw [List.getElem?_append_right (by omega), List.getElem?_append_right (by omega), h1, h2, List.getElem?_drop, List.getElem?_drop, show k + (i - k) = i by omega, show k + 1 + (i - (k + 1)) = i by omega]
end Go.Proofs.YtdpaaoeipconcaaDoor

namespace Go.Proofs.YtdpaaoeipconcaaDoor
open Go.RowKit

set_option maxRecDepth 10000 in
set_option maxHeartbeats 8000000 in
theorem put_any (w : World) (P S : Nat → Prop) (t i : Nat) (vO vI : Value) (outs inn : List Value) (h : PlaceM P w t vO vI outs inn) (A : Option Addr) (c : Nat) (bs : List UInt8) (ha : Bts S w A bs) (hS : ∀ k, S k → ¬ P k) (_ : bs.length ≤ c) (hl : bs.length ≤ 1000000000000) (hi : i ≤ 1000000000000) :
    Calls Tryd.prog 73 #[.pointer (some ⟨t, 0, none⟩), .int .i64 (i : Int), .slice A bs.length c] w (PostPlace P w t i vO outs inn bs) := by
  obtain ⟨i5, hi5, hz0, hz1, hz2⟩ := info_parts info5
  have hmk0 : ∀ W : World, (Instr.makeSlice 22 (.int .i64 64) (.int .i64 64)).run Tryd.prog W = .ok (.slice (some ⟨W.heap.size, 0, none⟩) 64 64) (W.alloc (.cells (madeCells #[.int .u8 0] 64) 5)) := fun W => by
    have hmk := run_make (P := Tryd.prog) W 22 5 i5 (.int .u8 0) Tryd.underlying22 hi5 hz0 .i64 .i64 64 64 (by omega) (by omega) (by rw [hz2]; omega) (by omega)
    simp only [hz1, Nat.mul_one, show (Value.int .u8 0).cells = #[.int .u8 0] from rfl] at hmk
    exact hmk
  have hmkN : ∀ (N : Nat) (W : World), N ≤ 2000000000000 → (Instr.makeSlice 22 (.int .i64 (N : Int)) (.int .i64 (N : Int))).run Tryd.prog W = .ok (.slice (some ⟨W.heap.size, 0, none⟩) N N) (W.alloc (.cells (madeCells #[.int .u8 0] N) 5)) := fun N W hN => by
    have hmk := run_make (P := Tryd.prog) W 22 5 i5 (.int .u8 0) Tryd.underlying22 hi5 hz0 .i64 .i64 (N : Int) (N : Int) (by omega) (by omega) (by rw [hz2]; omega) (by omega)
    simp only [hz1, Nat.mul_one, Int.toNat_natCast, show (Value.int .u8 0).cells = #[.int .u8 0] from rfl] at hmk
    exact hmk
  have HMN := hid hmkN
  have HMK := hid hmk0
  clear hmkN
  have HS := hid (show InPut P w t i vO vI outs inn w from ⟨P, vI, [], by rw [List.append_nil]; exact h, by rw [List.append_nil]; omega, fun k hk => .inl hk, fun k hk => .inl hk, Keeps.refl _ _⟩)
  clear hmk0 hz0 hz1 hz2 hi5
  have HA := hid (And.intro ha hS)
  clear ha hS
  go_enter Tryd.func73, Tryd.ntmps73
  go_wp2
  go_loopw [] (fun wr => Hid (InPut P w t i vO vI outs inn wr)) (fun wr => i + 1 - innLen t wr)
  case atStart => exact HS
  case round =>
    clear HS
    have hin := hrel.out
    clear hrel
    obtain ⟨P', vI', news, hP, hlen, hPn, hvn, hkp⟩ := hin
    obtain ⟨q, hq⟩ : ∃ q, q = inn ++ news := ⟨_, rfl⟩
    rw [← hq] at hP hlen
    have HQ := hid hq
    clear hq
    obtain ⟨AI, cI, hvI, _, hcI⟩ := own_slice hP.i
    subst hvI
    have c1 : wr.cell? ⟨t, 1, none⟩ = some (.slice AI q.length cI) := cell_of_heap hP.head
    have hil1 := innLen_of c1
    by_cases hle : q.length ≤ i
    · have j1 : (q.length : Int) ≤ (i : Int) := by omega
      obtain ⟨W0, hW0⟩ : ∃ W, W = wr.drew := ⟨_, rfl⟩
      have k0 : Old wr W0 := by rw [hW0]; exact (Keeps.refl _ _).drew
      have c1' : W0.cell? ⟨t, 1, none⟩ = some (.slice AI q.length cI) := (k0.cell (lt_of_cell c1) trivial).trans c1
      have hmk := HMK.out W0
      obtain ⟨W1, hW1⟩ : ∃ W, W = W0.alloc (.cells (madeCells #[.int .u8 0] 64) 5) := ⟨_, rfl⟩
      have k1 : Old W0 W1 := by rw [hW1]; exact (Keeps.refl _ _).alloc _
      have hv1 : OwnB (fun k => W0.heap.size ≤ k) W1 (.slice (some ⟨W0.heap.size, 0, none⟩) 64 64) (zerosP 64) := by rw [hW1]; exact made_own (by omega)
      rw [← hW1] at hmk
      clear hW1
      have c2 : W1.cell? ⟨t, 1, none⟩ = some (.slice AI q.length cI) := (k1.cell (lt_of_cell c1') trivial).trans c1'
      obtain ⟨W2, hW2⟩ : ∃ W, W = W1.alloc (.cells #[.slice (some ⟨W0.heap.size, 0, none⟩) 64 64] 22) := ⟨_, rfl⟩
      have k2 : Old W1 W2 := by rw [hW2]; exact (Keeps.refl _ _).alloc _
      have hb2 : W2.heap[W1.heap.size]? = some (.cells #[.slice (some ⟨W0.heap.size, 0, none⟩) 64 64] 22 (0, 0)) := by rw [hW2]; exact heap_alloc_new _ _
      have c3 : W2.cell? ⟨t, 1, none⟩ = some (.slice AI q.length cI) := (k2.cell (lt_of_cell c2) trivial).trans c2
      have k02 : Old wr W2 := (k0.trans' k1).trans' k2
      have hrow2 := own_keeps hP.i k02 (fun _ _ => trivial)
      have hz0 := k0.size
      have hz1 := k1.size
      have hz2 := k2.size
      have hzw := hkp.size
      go_wp2_with fail
      refine wp_region_tree (fun _ => True) 11
        (.take 0 (.take 1 (.take 2 (.take 3 (.two 4 5 (.one 5 (.one 6 (.one 7 (.take 8 (.take 9 (.one 10 .tail)))))) (.two 4 6 (.one 6 (.one 7 (.take 8 (.take 9 (.one 10 .tail))))) (.one 4 (.one 7 (.take 8 (.take 9 (.one 10 .tail))))))))))) (by kernel_rfl) (by kernel_rfl) trivial ?_
      rw [← hW0]
      clear hW0 c1
      iterate 4 (refine pt_take (v := ?_) (by rfl) (by rfl) (fun w' hS => ?_) ?_; rotate_left 1; (go_simp <;> (try with_reducible rfl)); (simp only [Act.put, List.setIfInBounds_toArray, List.set_cons_zero, List.set_cons_succ]))
      refine pt_two (by rfl) (by rfl) (loudly_of (by rfl) (fun K hK => ?_)) (loudly_of (by rfl) (fun K hK => ?_))
      · go_wp2
        refine hK _ _ trivial ?_
        clear hK K
        refine pt_one (by rfl) (loudly_of (by rfl) (fun K hK => ?_))
        go_wp2
        refine hK _ _ trivial ?_
        clear hK K
        refine pt_one (by rfl) (loudly_of (by rfl) (fun K hK => ?_))
        go_wp2
        rw [← hW2]
        clear hW2
        refine hK _ _ trivial ?_
        clear hK K
        refine pt_one (by rfl) (loudly_of (by rfl) (fun K hK => ?_))
        refine wp_append_ex W2 _ _ 35 22 (by rfl) Tryd.underlying35 info22 (by rfl) (by omega) (by rfl) hrow2 (some ⟨W1.heap.size, 0, none⟩) 1 1 [.slice (some ⟨W0.heap.size, 0, none⟩) 64 64] (by rfl) (by rfl) (fun _ => ⟨_, rfl, World.news_of_block hb2⟩) (one_one rfl) (by omega) (by unfold maxLen; omega) ?_
        intro v4 w4 hown4 hgrow4 hat4
        simp only [Act.put, List.setIfInBounds_toArray, List.set_cons_zero, List.set_cons_succ]
        have K24 : Keeps (fun k => (Value.slice AI q.length cI).ownBlock ≠ some k) W2 w4 := (Keeps.refl _ W2).grown hgrow4 (fun k _ h hn => hn h)
        have hh4 := K24.heap (k02.heap hP.head trivial) hP.parts.2.1
        have u1 : w4.cell? ⟨t, 1, none⟩ = some (.slice AI q.length cI) := cell_of_heap hh4
        have uf : ∀ i, w4.frozen? ⟨t, i, none⟩ = false := fun i => frozen_of_heap hh4
        obtain ⟨A4, c4, hv4, _, _⟩ := own_slice hown4
        subst hv4
        refine hK _ _ trivial ?_
        clear hK K
        obtain ⟨hP5, hK5⟩ := hP.push k02 (by decide) ((hv1.keep (k2.old _)).mono fun k _ hk => by have hk' : W0.heap.size ≤ k := hk; show wr.heap.size ≤ k; omega) K24 hown4 (fun k hk => by
          rcases hat4 with e | e
          · rw [e] at hk; exact .inl hk
          · rw [e] at hk; injection hk with hk; right; omega)
        have c5 : (w4.setCell ⟨t, 1, none⟩ (.slice A4 (q.length + 1) c4)).cell? ⟨t, 1, none⟩ = some (.slice A4 (q.length + 1) c4) := cell_of_heap hP5.head
        have hm5 := innLen_of c5
        have HR := hid (show InPut P w t i vO vI outs inn (w4.setCell ⟨t, 1, none⟩ (.slice A4 (q.length + 1) c4)) from ⟨_, _, news ++ [.slice (some ⟨W0.heap.size, 0, none⟩) 64 64], by rw [← List.append_assoc, ← HQ.out]; exact hP5, by rw [← List.append_assoc, ← HQ.out, List.length_append, List.length_singleton]; omega, fun k hk => by
            rcases hk with hk | hk | hk
            · exact hPn k hk
            · have e : W0.heap.size = k := by simpa [Value.ownBlock] using hk
              right; omega
            · rcases hat4 with e | e
              · rw [e] at hk
                exact hPn k (hP.if_ k hk)
              · rw [e] at hk; injection hk with hk; right; omega, fun k hk => by
            rcases hat4 with e | e
            · rw [e] at hk
              exact hvn k hk
            · rw [e] at hk; injection hk with hk; right; omega, hkp.trans hK5 fun k hkw hk => ⟨hk.1, fun e => by
              rcases hvn k e with h' | h'
              · exact hk.2 h'
              · omega⟩⟩)
        clear hP5 hK5 hown4 hgrow4 hat4 K24 hh4
        iterate 2 (refine pt_take (v := ?_) (by rfl) (by rfl) (fun w' hS => ?_) ?_; rotate_left 1; (go_simp <;> (try with_reducible rfl)); (simp only [Act.put, List.setIfInBounds_toArray, List.set_cons_zero, List.set_cons_succ]))
        refine pt_one (by rfl) (loudly_of (by rfl) (fun K hK => ?_))
        go_wp2
        refine hK _ _ trivial ?_
        clear hK K
        refine pt_tail (by rfl) ?_
        go_wp2
        refine NoPanic.normal ?_
        go_wp2
        exact ⟨HR, by omega⟩
      · go_wp2
        refine hK _ _ trivial ?_
        clear hK K
        refine pt_two (by rfl) (by rfl) (loudly_of (by rfl) (fun K hK => ?_)) (loudly_of (by rfl) (fun K hK => ?_))
        · go_wp2
          refine hK _ _ trivial ?_
          clear hK K
          refine pt_one (by rfl) (loudly_of (by rfl) (fun K hK => ?_))
          go_wp2
          rw [← hW2]
          clear hW2
          refine hK _ _ trivial ?_
          clear hK K
          refine pt_one (by rfl) (loudly_of (by rfl) (fun K hK => ?_))
          refine wp_append_ex W2 _ _ 35 22 (by rfl) Tryd.underlying35 info22 (by rfl) (by omega) (by rfl) hrow2 (some ⟨W1.heap.size, 0, none⟩) 1 1 [.slice (some ⟨W0.heap.size, 0, none⟩) 64 64] (by rfl) (by rfl) (fun _ => ⟨_, rfl, World.news_of_block hb2⟩) (one_one rfl) (by omega) (by unfold maxLen; omega) ?_
          intro v4 w4 hown4 hgrow4 hat4
          simp only [Act.put, List.setIfInBounds_toArray, List.set_cons_zero, List.set_cons_succ]
          have K24 : Keeps (fun k => (Value.slice AI q.length cI).ownBlock ≠ some k) W2 w4 := (Keeps.refl _ W2).grown hgrow4 (fun k _ h hn => hn h)
          have hh4 := K24.heap (k02.heap hP.head trivial) hP.parts.2.1
          have u1 : w4.cell? ⟨t, 1, none⟩ = some (.slice AI q.length cI) := cell_of_heap hh4
          have uf : ∀ i, w4.frozen? ⟨t, i, none⟩ = false := fun i => frozen_of_heap hh4
          obtain ⟨A4, c4, hv4, _, _⟩ := own_slice hown4
          subst hv4
          refine hK _ _ trivial ?_
          clear hK K
          obtain ⟨hP5, hK5⟩ := hP.push k02 (by decide) ((hv1.keep (k2.old _)).mono fun k _ hk => by have hk' : W0.heap.size ≤ k := hk; show wr.heap.size ≤ k; omega) K24 hown4 (fun k hk => by
            rcases hat4 with e | e
            · rw [e] at hk; exact .inl hk
            · rw [e] at hk; injection hk with hk; right; omega)
          have c5 : (w4.setCell ⟨t, 1, none⟩ (.slice A4 (q.length + 1) c4)).cell? ⟨t, 1, none⟩ = some (.slice A4 (q.length + 1) c4) := cell_of_heap hP5.head
          have hm5 := innLen_of c5
          have HR := hid (show InPut P w t i vO vI outs inn (w4.setCell ⟨t, 1, none⟩ (.slice A4 (q.length + 1) c4)) from ⟨_, _, news ++ [.slice (some ⟨W0.heap.size, 0, none⟩) 64 64], by rw [← List.append_assoc, ← HQ.out]; exact hP5, by rw [← List.append_assoc, ← HQ.out, List.length_append, List.length_singleton]; omega, fun k hk => by
              rcases hk with hk | hk | hk
              · exact hPn k hk
              · have e : W0.heap.size = k := by simpa [Value.ownBlock] using hk
                right; omega
              · rcases hat4 with e | e
                · rw [e] at hk
                  exact hPn k (hP.if_ k hk)
                · rw [e] at hk; injection hk with hk; right; omega, fun k hk => by
              rcases hat4 with e | e
              · rw [e] at hk
                exact hvn k hk
              · rw [e] at hk; injection hk with hk; right; omega, hkp.trans hK5 fun k hkw hk => ⟨hk.1, fun e => by
                rcases hvn k e with h' | h'
                · exact hk.2 h'
                · omega⟩⟩)
          clear hP5 hK5 hown4 hgrow4 hat4 K24 hh4
          iterate 2 (refine pt_take (v := ?_) (by rfl) (by rfl) (fun w' hS => ?_) ?_; rotate_left 1; (go_simp <;> (try with_reducible rfl)); (simp only [Act.put, List.setIfInBounds_toArray, List.set_cons_zero, List.set_cons_succ]))
          refine pt_one (by rfl) (loudly_of (by rfl) (fun K hK => ?_))
          go_wp2
          refine hK _ _ trivial ?_
          clear hK K
          refine pt_tail (by rfl) ?_
          go_wp2
          refine NoPanic.normal ?_
          go_wp2
          exact ⟨HR, by omega⟩
        · go_wp2
          rw [← hW2]
          clear hW2
          refine hK _ _ trivial ?_
          clear hK K
          refine pt_one (by rfl) (loudly_of (by rfl) (fun K hK => ?_))
          go_wp2
          refine hK _ _ trivial ?_
          clear hK K
          refine pt_one (by rfl) (loudly_of (by rfl) (fun K hK => ?_))
          refine wp_append_ex W2 _ _ 35 22 (by rfl) Tryd.underlying35 info22 (by rfl) (by omega) (by rfl) hrow2 (some ⟨W1.heap.size, 0, none⟩) 1 1 [.slice (some ⟨W0.heap.size, 0, none⟩) 64 64] (by rfl) (by rfl) (fun _ => ⟨_, rfl, World.news_of_block hb2⟩) (one_one rfl) (by omega) (by unfold maxLen; omega) ?_
          intro v4 w4 hown4 hgrow4 hat4
          simp only [Act.put, List.setIfInBounds_toArray, List.set_cons_zero, List.set_cons_succ]
          have K24 : Keeps (fun k => (Value.slice AI q.length cI).ownBlock ≠ some k) W2 w4 := (Keeps.refl _ W2).grown hgrow4 (fun k _ h hn => hn h)
          have hh4 := K24.heap (k02.heap hP.head trivial) hP.parts.2.1
          have u1 : w4.cell? ⟨t, 1, none⟩ = some (.slice AI q.length cI) := cell_of_heap hh4
          have uf : ∀ i, w4.frozen? ⟨t, i, none⟩ = false := fun i => frozen_of_heap hh4
          obtain ⟨A4, c4, hv4, _, _⟩ := own_slice hown4
          subst hv4
          refine hK _ _ trivial ?_
          clear hK K
          obtain ⟨hP5, hK5⟩ := hP.push k02 (by decide) ((hv1.keep (k2.old _)).mono fun k _ hk => by have hk' : W0.heap.size ≤ k := hk; show wr.heap.size ≤ k; omega) K24 hown4 (fun k hk => by
            rcases hat4 with e | e
            · rw [e] at hk; exact .inl hk
            · rw [e] at hk; injection hk with hk; right; omega)
          have c5 : (w4.setCell ⟨t, 1, none⟩ (.slice A4 (q.length + 1) c4)).cell? ⟨t, 1, none⟩ = some (.slice A4 (q.length + 1) c4) := cell_of_heap hP5.head
          have hm5 := innLen_of c5
          have HR := hid (show InPut P w t i vO vI outs inn (w4.setCell ⟨t, 1, none⟩ (.slice A4 (q.length + 1) c4)) from ⟨_, _, news ++ [.slice (some ⟨W0.heap.size, 0, none⟩) 64 64], by rw [← List.append_assoc, ← HQ.out]; exact hP5, by rw [← List.append_assoc, ← HQ.out, List.length_append, List.length_singleton]; omega, fun k hk => by
              rcases hk with hk | hk | hk
              · exact hPn k hk
              · have e : W0.heap.size = k := by simpa [Value.ownBlock] using hk
                right; omega
              · rcases hat4 with e | e
                · rw [e] at hk
                  exact hPn k (hP.if_ k hk)
                · rw [e] at hk; injection hk with hk; right; omega, fun k hk => by
              rcases hat4 with e | e
              · rw [e] at hk
                exact hvn k hk
              · rw [e] at hk; injection hk with hk; right; omega, hkp.trans hK5 fun k hkw hk => ⟨hk.1, fun e => by
                rcases hvn k e with h' | h'
                · exact hk.2 h'
                · omega⟩⟩)
          clear hP5 hK5 hown4 hgrow4 hat4 K24 hh4
          iterate 2 (refine pt_take (v := ?_) (by rfl) (by rfl) (fun w' hS => ?_) ?_; rotate_left 1; (go_simp <;> (try with_reducible rfl)); (simp only [Act.put, List.setIfInBounds_toArray, List.set_cons_zero, List.set_cons_succ]))
          refine pt_one (by rfl) (loudly_of (by rfl) (fun K hK => ?_))
          go_wp2
          refine hK _ _ trivial ?_
          clear hK K
          refine pt_tail (by rfl) ?_
          go_wp2
          refine NoPanic.normal ?_
          go_wp2
          exact ⟨HR, by omega⟩
    · have j1 : ¬ (q.length : Int) ≤ (i : Int) := by omega
      obtain ⟨gI, cc, hv, _, _, hcells⟩ := own_cells hP.i (by omega)
      injection hv with hA hnn hcc
      clear hnn
      subst hA hcc
      have hlt : i < q.length := by omega
      have ci : wr.cell? ⟨gI, i, none⟩ = some q[i] := by rw [hcells i (by omega)]; exact List.getElem?_eq_getElem hlt
      obtain ⟨ys, hyn, hy⟩ := hP.each q[i] (List.getElem_mem hlt)
      obtain ⟨Ai, cci, hvi, _, _⟩ := hy.slice
      rw [hvi] at ci
      clear hcells
      obtain ⟨N, hN⟩ : ∃ N, N = 2 * bs.length := ⟨_, rfl⟩
      have b1 : IntKind.i64.wrap (2 * (bs.length : Int)) = (N : Int) := by rw [IntKind.wrap_i64]; omega
      have hNm : N ≤ 2000000000000 := by omega
      have HN := hid hN
      clear hN
      have HPM := hid (show 0 < ys.length ∧ (∀ k, P' k → P k ∨ w.heap.size ≤ k) ∧ Keeps (fun k => ¬ P k ∨ vO.ownBlock = some k ∨ ∃ j x, j ≠ i ∧ inn[j]? = some x ∧ x.ownBlock = some k) w wr from ⟨List.length_pos_iff.2 hyn, hPn, hkp.mono fun k _ hk => by
        obtain ⟨p1, p2, p3⟩ := h.parts
        rcases hk with hk | hk | ⟨j, x, hj, hx, hk⟩
        · exact ⟨fun e => hk (by rw [e]; exact h.ft), fun e => hk (h.if_ k e)⟩
        · exact ⟨fun e => p1 (by rw [hk, e]), h.oi k hk⟩
        · have hm := List.mem_of_getElem? hx
          exact ⟨fun e => (p3 x hm).1 (by rw [hk, e]), ((p3 x hm).2 k hk).2⟩⟩)
      have HOT := hid (show (∀ j, j < inn.length → q[j]? = inn[j]?) ∧ inn.length ≤ q.length from ⟨fun j hj => by rw [HQ.out, List.getElem?_append_left hj], by rw [HQ.out, List.length_append]; omega⟩)
      have HYL := hid (show ys.length ≤ 281474976710656 by have := hy.len; omega)
      clear hkp hPn hvn hil1 b1
      go_upto_if 36 with fail
      go_cut [] (fun wx => Hid (PutMid P w t i vO outs inn bs.length wx))
      case first =>
        by_cases hsm : ys.length < bs.length
        · have j2 : (ys.length : Int) < (bs.length : Int) := by omega
          obtain ⟨W0, hW0⟩ : ∃ W, W = wr.drew := ⟨_, rfl⟩
          have k0 : Old wr W0 := by rw [hW0]; exact (Keeps.refl _ _).drew
          have hmk := HMN.out N W0 hNm
          obtain ⟨W1, hW1⟩ : ∃ W, W = W0.alloc (.cells (madeCells #[.int .u8 0] N) 5) := ⟨_, rfl⟩
          have k1 : Old W0 W1 := by rw [hW1]; exact (Keeps.refl _ _).alloc _
          have hv1 : OwnB (fun k => W0.heap.size ≤ k) W1 (.slice (some ⟨W0.heap.size, 0, none⟩) N N) (zerosP N) := by rw [hW1]; exact made_own (by omega)
          rw [← hW1] at hmk
          clear hW1
          have k01 := k0.trans' k1
          have hz0 := k0.size
          have hz1 := k1.size
          have hN2 := HN.out
          have b1 : IntKind.i64.wrap (2 * (bs.length : Int)) = (N : Int) := by rw [IntKind.wrap_i64]; omega
          obtain ⟨hP5, hK5⟩ := hP.setI hlt rfl k01 (by simp; omega) (hv1.mono fun k _ hk => by have hk' : W0.heap.size ≤ k := hk; show wr.heap.size ≤ k; omega)
          have c4 : W1.cell? ⟨t, 1, none⟩ = some (.slice (some ⟨gI, 0, none⟩) q.length cI) := (k01.cell (lt_of_cell c1) trivial).trans c1
          have ci4 : W1.cell? ⟨gI, i, none⟩ = some (.slice Ai ys.length cci) := (k01.cell (lt_of_cell ci) trivial).trans ci
          have fi4 : W1.frozen? ⟨gI, i, none⟩ = false := (Row1.ofOwn (own_keeps hP.i k01 (fun _ _ => trivial))).frozen i
          have c5 : (W1.setCell ⟨gI, i, none⟩ (.slice (some ⟨W0.heap.size, 0, none⟩) N N)).cell? ⟨t, 1, none⟩ = some (.slice (some ⟨gI, 0, none⟩) q.length cI) := cell_of_heap hP5.head
          have hIP := hP.if_ gI rfl
          have HR := hid (show PutMid P w t i vO outs inn bs.length (W1.setCell ⟨gI, i, none⟩ (.slice (some ⟨W0.heap.size, 0, none⟩) N N)) from by
            obtain ⟨hy0, hPn, hkp⟩ := HPM.out
            obtain ⟨ho1, ho2⟩ := HOT.out
            have hzw := hkp.size
            refine ⟨_, _, _, W0.heap.size, N, N, hP5, by rw [List.getElem?_set_self hlt], by omega, by omega, by omega, fun j hj hji => by rw [List.getElem?_set_ne (Ne.symm hji)]; exact ho1 j hj, by rw [List.length_set]; exact ho2, by rw [List.length_set]; exact hlen, fun k hk => ?_, hkp.trans hK5 fun k hkw hk e => ?_⟩
            · rcases hk with hk | hk
              · exact hPn k hk
              · have e : W0.heap.size = k := by simpa [Value.ownBlock] using hk
                right; omega
            · subst e
              rcases hPn _ hIP with hp | hp
              · rcases hk with hk | hk | ⟨j, x, hj, hx, hk⟩
                · exact hk hp
                · exact hP.oi _ hk rfl
                · have hjl := (List.getElem?_eq_some_iff.1 hx).1
                  have hm := List.mem_of_getElem? ((ho1 j hjl).trans hx)
                  exact ((hP.parts.2.2 x hm).2 _ hk).2 rfl
              · omega)
          clear hP5 hK5 hIP hN2
          go_upto_region 4 with fail
          refine wp_region_tree (fun w' => w'.cell? ⟨t, 1, none⟩ = some (.slice (some ⟨gI, 0, none⟩) q.length cI)) 11
            (.take 0 (.take 1 (.take 2 (.take 3 (.take 4 (.take 5 (.take 6 (.take 7 (.one 8 (.take 9 (.one 10 .tail))))))))))) (by kernel_rfl) (by kernel_rfl) c1 ?_
          rw [← hW0]
          clear hW0
          iterate 8 (refine pt_take (v := ?_) (by rfl) (by rfl) (fun w' hS => ?_) ?_; rotate_left 1; (go_simp <;> (try with_reducible rfl)); (simp only [Act.put, List.setIfInBounds_toArray, List.set_cons_zero, List.set_cons_succ]))
          refine pt_one (by rfl) (loudly_of (by rfl) (fun K hK => ?_))
          go_wp2
          refine hK _ _ c4 ?_
          clear hK K
          (refine pt_take (v := ?_) (by rfl) (by rfl) (fun w' hS => ?_) ?_; rotate_left 1; (go_simp <;> (try with_reducible rfl)); (simp only [Act.put, List.setIfInBounds_toArray, List.set_cons_zero, List.set_cons_succ]))
          refine pt_one (by rfl) (loudly_of (by rfl) (fun K hK => ?_))
          go_wp2
          refine hK _ _ c5 ?_
          clear hK K
          refine pt_tail (by rfl) ?_
          go_wp2
          refine NoPanic.normal ?_
          go_wp2
          go_meet
          exact HR
        · have j2 : ¬ (ys.length : Int) < (bs.length : Int) := by omega
          have HR := hid (show PutMid P w t i vO outs inn bs.length wr from by
            obtain ⟨hy0, hPn, hkp⟩ := HPM.out
            obtain ⟨ho1, ho2⟩ := HOT.out
            have hAi : ∃ g, Ai = some ⟨g, 0, none⟩ := by
              rw [hvi] at hy
              obtain ⟨g, c', hv', _⟩ := own_cells hy.row hy0
              injection hv' with hA' _ _
              exact ⟨g, hA'⟩
            obtain ⟨g, rfl⟩ := hAi
            exact ⟨_, _, q, g, ys.length, cci, hP, by rw [List.getElem?_eq_getElem hlt, hvi], by omega, hy0, HYL.out, fun j hj _ => ho1 j hj, ho2, hlen, hPn, hkp⟩)
          go_wp2
          go_meet
          exact HR
      case rest =>
        have hm := hcut.out
        clear hcut HPM HOT HYL HN hNm hy hyn hvi ci hlt hP c1 hlen HQ j1
        obtain ⟨P2, vI2, q2, g, n, c2, hP, hq2, hbn, hn0, hnl, hot, hl1, hl2, hPn, hkp⟩ := hm
        obtain ⟨hlt2, hqe⟩ := List.getElem?_eq_some_iff.1 hq2
        obtain ⟨g2, cI2, rfl, _, _, hcells⟩ := own_cells hP.i (by omega)
        have e1 : wc.cell? ⟨t, 1, none⟩ = some (.slice (some ⟨g2, 0, none⟩) q2.length cI2) := cell_of_heap hP.head
        have e2 : wc.cell? ⟨g2, i, none⟩ = some (.slice (some ⟨g, 0, none⟩) n c2) := by rw [hcells i (by omega)]; exact hq2
        have i1 : (i : Int) < (q2.length : Int) := by omega
        have i0 : (0 : Int) ≤ (i : Int) := by omega
        obtain ⟨ys2, hyn2, hy2⟩ := hP.each _ (hqe ▸ List.getElem_mem hlt2)
        obtain ⟨_, _, hv2, hnc2, hcm2⟩ := hy2.slice
        injection hv2 with hA2 hn2 hc2
        subst hA2 hn2 hc2
        have hr0 := Row1.ofOwn hy2.row
        have hPg : P2 g := hy2.foot g rfl
        have hgw : P g ∨ w.heap.size ≤ g := hPn g hPg
        have hgt : g ≠ t ∧ g ≠ g2 := by
          obtain ⟨p1, p2⟩ := hP.parts.2.2 _ (hqe ▸ List.getElem_mem hlt2)
          exact ⟨fun e => p1 (by rw [e]; rfl), fun e => (p2 g rfl).2 (by rw [e]; rfl)⟩
        have HS := hid (show Row1 wc 5 g c2 ((bs.take 0 ++ ys2.drop 0).map bv) ∧ Keeps (· ≠ g) wc wc from ⟨by simpa using hr0, Keeps.refl _ _⟩)
        have HX := hid (And.intro hP (And.intro hq2 (And.intro hot (And.intro hl1 (And.intro hl2 (And.intro hPn hkp))))))
        have HY := hid hr0
        have hbi : (bs.length : Int) ≤ (ys2.length : Int) := by omega
        have hbc : (bs.length : Int) ≤ (c2 : Int) := by omega
        have HG := hid (And.intro hgw hgt)
        clear hqe
        clear hP hot hl1 hl2 hPn hkp hy2 hyn2 hcells hq2 hr0 hgw hgt hlt2 hPg
        go_upto_region 7 with fail
        go_loopw [8] (fun j wr2 => ∃ k : Nat, j = .int .i64 k ∧ k ≤ bs.length ∧ Hid (Row1 wr2 5 g c2 ((bs.take k ++ ys2.drop k).map bv) ∧ Keeps (· ≠ g) wc wr2)) (fun j _ => bs.length - (intOf j).toNat)
        case atStart => exact ⟨0, rfl, Nat.zero_le _, HS⟩
        case round =>
          clear HS
          obtain ⟨k, rfl, hk, hin⟩ := hrel
          obtain ⟨hrow, hkk⟩ := hin.out
          clear hin
          have i2 : (0 : Int) ≤ (k : Int) := by omega
          have hlen : ((bs.take k ++ ys2.drop k).map bv).length = ys2.length := by rw [List.length_map, List.length_append, List.length_take, List.length_drop]; omega
          by_cases hlt : k < bs.length
          · have i3 : (k : Int) < (bs.length : Int) := by omega
            obtain ⟨u, hu⟩ := hrow.some_ (i := k) (by omega)
            have hf := hrow.frozen
            obtain ⟨hgw, hgt⟩ := HG.out
            obtain ⟨hA, hSP⟩ := HA.out
            have hA0 : Bts S wr A bs := by
              have hkp := HX.out.2.2.2.2.2.2
              refine hA.keep ((hkp.mono fun k _ hs => .inl (hSP k hs) : Keeps S w wc).trans hkk fun k hkw hs e => ?_)
              subst e
              rcases hgw with h' | h'
              · exact hSP _ hs h'
              · omega
            obtain ⟨b, o, rfl, _, h0⟩ := hA0.at_ hlt
            have hst := hrow.set k (bv bs[k])
            rw [fill_step bs ys2 k hlt hbn] at hst
            have HR := hid (And.intro hst (hkk.setCell (p := ⟨g, k, none⟩) (fun _ h => h rfl) (bv bs[k])))
            clear hst hrow hkk hlen hA hA0 hgw hgt
            generalize bs[k] = x at *
            go_wp2
            exact ⟨⟨k + 1, by go_num, by omega, HR⟩, by simp [intOf]; omega⟩
          · obtain rfl : k = bs.length := by omega
            have i3 : ¬ ((bs.length : Nat) : Int) < (bs.length : Int) := by omega
            rw [List.take_length] at hrow
            obtain ⟨hP, hq2, hot, hl1, hl2, hPn, hkp⟩ := HX.out
            obtain ⟨hgw, hgt⟩ := HG.out
            have hF : PostPlace P w t i vO outs inn bs (.returned (.slice (some ⟨g, 0, none⟩) bs.length c2)) wr := by
              refine ⟨P2, _, q2, g, c2, rfl, by omega, hP.fill hq2 hkk hrow (by rw [List.length_append, List.length_drop]; omega) hn0 hnl hcm2, ?_, by rw [hq2]; rfl, hot, hl1, hl2, hPn, hkp.trans hkk fun k hkw hk e => ?_⟩
              · have hb := hrow.bts (n := bs.length) (by rw [List.length_append]; omega) (by omega)
                rw [List.take_left' rfl] at hb
                exact hb
              · subst e
                obtain ⟨hjl, hqe⟩ := List.getElem?_eq_some_iff.1 hq2
                rcases hgw with h' | h'
                · rcases hk with hk | hk | ⟨j, x, hj, hx, hk⟩
                  · exact hk h'
                  · exact ((hP.parts.2.2 _ (hqe ▸ List.getElem_mem hjl)).2 _ rfl).1 hk
                  · have hjl2 := (List.getElem?_eq_some_iff.1 hx).1
                    obtain ⟨hjl3, hqj⟩ := List.getElem?_eq_some_iff.1 ((hot j hjl2 hj).trans hx)
                    have hd := List.pairwise_iff_getElem.1 hP.dis
                    rcases Nat.lt_or_gt_of_ne hj with hlt' | hlt'
                    · exact hd j i hjl3 hjl hlt' _ (by rw [hqj]; exact hk) (by rw [hqe]; rfl)
                    · exact hd i j hjl hjl3 hlt' _ (by rw [hqe]; rfl) (by rw [hqj]; exact hk)
                · omega
            have HF := hid hF
            clear hF hP hq2 hot hl1 hl2 hPn hkp hgw hgt hrow hkk hlen
            go_wp2
            go_ret
            exact HF.out
end Go.Proofs.YtdpaaoeipconcaaDoor

namespace Go.Proofs.YtdpaaoeipconcaaDoor
open Go.RowKit

theorem made_row {w : World} {e : TypeId} {z : Value} (_ : z.cells = #[z]) {N : Nat} (hN : N ≤ maxLen) : (w.alloc (.cells (madeCells #[z] N) e)).ownsRow 0 e 1 (.slice (some ⟨w.heap.size, 0, none⟩) N N) (List.replicate N z).length (List.replicate N z) := by
  have hr : (w.alloc (.cells (madeCells #[z] N) e)).heap[w.heap.size]? = some (.cells (List.replicate N z).toArray e (0, 0)) := by
    rw [heap_alloc_new, ← toList_madeCells_one]
  have hrow : Row1 (w.alloc (.cells (madeCells #[z] N) e)) e w.heap.size N (List.replicate N z) := ⟨_, hr, by simp, by simp, by simp⟩
  have h := hrow.own (n := N) (by simp) hN
  simpa using h

/-- What list leaves: the records lie in the place's blocks. -/
def PostList (P : Nat → Prop) (w : World) (t : Nat) (outs inn : List Value) (rs : List (List UInt8)) (e : Ending) (w' : World) : Prop :=
  ∃ P' vO' vI' outs' inn' A c, e = .returned (.slice A rs.length c) ∧ rs.length ≤ c ∧ PlaceM P' w' t vO' vI' outs' inn' ∧ Rcs P' w' A rs ∧ inn'.length ≤ max inn.length (rs.length + 1) ∧ outs'.length ≤ max outs.length (2 * rs.length + 64) ∧ (∀ k, P' k → P k ∨ w.heap.size ≤ k) ∧ Keeps (fun k => ¬ P k) w w'

/-- behind the 'if': the outer list has room -/
def ListMid (P : Nat → Prop) (w : World) (t : Nat) (vI : Value) (outs inn : List Value) (m : Nat) (wx : World) : Prop :=
  ∃ P' vO' outs', PlaceM P' wx t vO' vI outs' inn ∧ m ≤ outs'.length ∧ outs'.length ≤ max outs.length (2 * m + 64) ∧ (∀ k, P' k → P k ∨ w.heap.size ≤ k) ∧ Keeps (fun k => ¬ P k) w wx

/-- the j-th record lies in the inner list behind it -/
def Laid1 (w : World) (outs inn : List Value) (r : List UInt8) (j : Nat) : Prop := ∃ g c, outs[j]? = some (.slice (some ⟨g, 0, none⟩) r.length c) ∧ r.length ≤ c ∧ Bts (fun k => k = g) w (some ⟨g, 0, none⟩) r ∧ inn[j + 1]?.bind Value.ownBlock = some g

/-- ahead of a round of the loop -/
def InList (P : Nat → Prop) (w : World) (t : Nat) (vO : Value) (L : Nat) (inn : List Value) (rs : List (List UInt8)) (k : Nat) (wr : World) : Prop :=
  ∃ P' vI' outs' inn', PlaceM P' wr t vO vI' outs' inn' ∧ outs'.length = L ∧ inn'.length ≤ max inn.length (k + 1) ∧ (∀ j (h : j < rs.length), j < k → Laid1 wr outs' inn' rs[j] j) ∧ (∀ k, P' k → P k ∨ w.heap.size ≤ k) ∧ Keeps (fun k => ¬ P k) w wr

/-- One record more. -/
theorem InList.step {P P' : Nat → Prop} {w wr w1 : World} {t L k gO cO : Nat} {vI' : Value} {inn outs' inn' : List Value} {rs : List (List UInt8)} (hk : k < rs.length)
    (hP : PlaceM P' wr t (.slice (some ⟨gO, 0, none⟩) L cO) vI' outs' inn') (hL : outs'.length = L) (hkL : k < L) (hin : inn'.length ≤ max inn.length (k + 1)) (hpre : ∀ j (h : j < rs.length), j < k → Laid1 wr outs' inn' rs[j] j) (hPn : ∀ k, P' k → P k ∨ w.heap.size ≤ k) (hkp : Keeps (fun k => ¬ P k) w wr)
    {P2 : Nat → Prop} {vI2 : Value} {inn2 : List Value} {g c : Nat} (hc : rs[k].length ≤ c) (hP2 : PlaceM P2 w1 t (.slice (some ⟨gO, 0, none⟩) L cO) vI2 outs' inn2) (hb : Bts (fun k => k = g) w1 (some ⟨g, 0, none⟩) rs[k]) (hg : inn2[k + 1]?.bind Value.ownBlock = some g)
    (hot : ∀ j, j < inn'.length → j ≠ k + 1 → inn2[j]? = inn'[j]?) (hl2 : inn2.length ≤ max inn'.length (k + 1 + 1)) (hPn2 : ∀ k, P2 k → P' k ∨ wr.heap.size ≤ k)
    (hk2 : Keeps (fun x => ¬ P' x ∨ (Value.slice (some ⟨gO, 0, none⟩) L cO).ownBlock = some x ∨ ∃ j y, j ≠ k + 1 ∧ inn'[j]? = some y ∧ y.ownBlock = some x) wr w1) :
    InList P w t (.slice (some ⟨gO, 0, none⟩) L cO) L inn rs (k + 1) (w1.setCell ⟨gO, k, none⟩ (.slice (some ⟨g, 0, none⟩) rs[k].length c)) := by
  obtain ⟨hP3, hK3⟩ := hP2.setO (i := k) (v := .slice (some ⟨g, 0, none⟩) rs[k].length c) hL.symm
  have hbk : ∀ {j : Nat} {x : Nat}, inn2[j]?.bind Value.ownBlock = some x → x ≠ gO := fun {j x} h e => by
    subst e
    cases hj : inn2[j]? with
    | none => rw [hj] at h; simp at h
    | some y =>
      rw [hj] at h
      exact ((hP2.parts.2.2 y (List.mem_of_getElem? hj)).2 _ h).1 rfl
  have hzr := hkp.size
  refine ⟨P2, vI2, _, inn2, hP3, by rw [List.length_set]; exact hL, by omega, fun j hj hjk => ?_, fun x hx => ?_, (hkp.trans hk2 fun x hxw hx => ?_).trans hK3 fun x hxw hx e => ?_⟩
  · by_cases hjk2 : j = k
    · subst hjk2
      exact ⟨g, c, by rw [List.getElem?_set_self (by omega)], hc, hb.keep (hK3.mono fun x _ hx => by rw [hx]; exact hbk hg), hg⟩
    · obtain ⟨gj, cj, h1, h2, h3, h4⟩ := hpre j hj (by omega)
      have hji : j + 1 < inn'.length := by
        refine Decidable.byContradiction fun hn => ?_
        rw [List.getElem?_eq_none (by omega)] at h4
        simp at h4
      have h5 : inn2[j + 1]?.bind Value.ownBlock = some gj := by rw [hot (j + 1) hji (by omega)]; exact h4
      refine ⟨gj, cj, by rw [List.getElem?_set_ne (by omega)]; exact h1, h2, (h3.keep (hk2.mono fun x _ hx => ?_)).keep (hK3.mono fun x _ hx => by rw [hx]; exact hbk h5), h5⟩
      obtain rfl : x = gj := hx
      rw [List.getElem?_eq_getElem hji] at h4
      exact .inr (.inr ⟨j + 1, inn'[j + 1], by omega, List.getElem?_eq_getElem hji, h4⟩)
  · rcases hPn2 x hx with h' | h'
    · exact hPn x h'
    · right; omega
  · left
    intro hp
    rcases hPn x hp with h' | h'
    · exact hx h'
    · omega
  · subst e
    rcases hPn _ (hP.of _ rfl) with h' | h'
    · exact hx h'
    · have h'' : w.heap.size ≤ x := h'
      omega

theorem InList.done {P : Nat → Prop} {w wr : World} {t L n : Nat} {A : Option Addr} {cO : Nat} {inn outs : List Value} {rs : List (List UInt8)} (h : InList P w t (.slice A n cO) L inn rs rs.length wr) (hL : L ≤ max outs.length (2 * rs.length + 64)) (hrL : rs.length ≤ L) (hc : rs.length ≤ cO) (hrl : rs.length ≤ 281474976710656) :
    PostList P w t outs inn rs (.returned (.slice A rs.length cO)) wr := by
  obtain ⟨P', vI', outs', inn', hP, hl, hi, hall, hPn, hkp⟩ := h
  refine ⟨P', _, vI', outs', inn', A, cO, rfl, hc, hP, ⟨hrl, fun hne => ?_⟩, hi, by omega, hPn, hkp⟩
  have h0 : 0 < rs.length := List.length_pos_iff.2 hne
  obtain ⟨gO, c, hv, _, _, hcells⟩ := own_cells hP.o (by omega)
  injection hv with hA _ _
  refine ⟨gO, 0, hA, hP.of gO (by rw [hA]; rfl), fun i hi => ?_⟩
  obtain ⟨g, c', h1, h2, h3, h4⟩ := hall i hi hi
  refine ⟨some ⟨g, 0, none⟩, c', by rw [Nat.zero_add, hcells i (by omega)]; exact h1, h2, h3.mono fun x _ hx => ?_⟩
  obtain rfl : x = g := hx
  cases hj : inn'[i + 1]? with
  | none => rw [hj] at h4; simp at h4
  | some y =>
    rw [hj] at h4
    obtain ⟨bs, _, hb⟩ := hP.each y (List.mem_of_getElem? hj)
    exact hb.foot _ h4

set_option maxRecDepth 10000 in
set_option maxHeartbeats 8000000 in
theorem list_any (w : World) (P S : Nat → Prop) (t : Nat) (vO vI : Value) (outs inn : List Value) (h : PlaceM P w t vO vI outs inn) (A : Option Addr) (c : Nat) (rs : List (List UInt8)) (ha : Rcs S w A rs) (hS : ∀ k, S k → ¬ P k ∧ k < w.heap.size) (hl : rs.length ≤ 100000000000) (hrs : ∀ r ∈ rs, r.length ≤ 1000000000000) :
    Calls Tryd.prog 74 #[.pointer (some ⟨t, 0, none⟩), .slice A rs.length c] w (PostList P w t outs inn rs) := by
  obtain ⟨i22, hi22, hz0, hz1, hz2⟩ := info_parts info22
  obtain ⟨N, hN⟩ : ∃ N, N = 2 * rs.length + 64 := ⟨_, rfl⟩
  have hmk : ∀ (W : World), (Instr.makeSlice 35 (.int .i64 (N : Int)) (.int .i64 (N : Int))).run Tryd.prog W = .ok (.slice (some ⟨W.heap.size, 0, none⟩) N N) (W.alloc (.cells (madeCells #[.slice none 0 0] N) 22)) := fun W => by
    have hmk := run_make (P := Tryd.prog) W 35 22 i22 (.slice none 0 0) Tryd.underlying35 hi22 hz0 .i64 .i64 (N : Int) (N : Int) (by omega) (by omega) (by rw [hz2]; omega) (by omega)
    simp only [hz1, Nat.mul_one, Int.toNat_natCast, show (Value.slice none 0 0).cells = #[.slice none 0 0] from rfl] at hmk
    exact hmk
  clear hz0 hz1 hz2 hi22
  obtain ⟨AO, cO, hvO, hcO, _⟩ := own_slice h.o
  subst hvO
  have c0 : w.cell? ⟨t, 0, none⟩ = some (.slice AO outs.length cO) := cell_of_heap h.head
  have cf : ∀ i, w.frozen? ⟨t, i, none⟩ = false := fun i => frozen_of_heap h.head
  have b1 : IntKind.i64.wrap (2 * (rs.length : Int)) = 2 * (rs.length : Int) := by rw [IntKind.wrap_i64]; omega
  have b2 : IntKind.i64.wrap (2 * (rs.length : Int) + 64) = (N : Int) := by rw [IntKind.wrap_i64]; omega
  have HN := hid hN
  have HH := hid h
  have HA := hid (And.intro ha (And.intro hS hrs))
  clear hN h ha hS hrs
  go_enter Tryd.func74, Tryd.ntmps74
  go_upto_if 13 with fail
  go_cut [] (fun wx => Hid (ListMid P w t vI outs inn rs.length wx))
  case first =>
    by_cases hsm : outs.length < rs.length
    · have j1 : (outs.length : Int) < (rs.length : Int) := by omega
      have hmw := hmk w
      obtain ⟨W1, hW1⟩ : ∃ W, W = w.alloc (.cells (madeCells #[.slice none 0 0] N) 22) := ⟨_, rfl⟩
      rw [← hW1] at hmw
      have k1 : Old w W1 := by rw [hW1]; exact (Keeps.refl _ _).alloc _
      have hrow := made_row (w := w) (e := 22) (z := .slice none 0 0) rfl (N := N) (by unfold maxLen; have := HN.out; omega)
      rw [← hW1] at hrow
      clear hW1 hmk
      obtain ⟨hP2, hK2⟩ := HH.out.newO k1 hrow (fun k hk => by
        have e : w.heap.size = k := by simpa [Value.ownBlock] using hk
        omega)
      have cf1 : ∀ i, W1.frozen? ⟨t, i, none⟩ = false := fun i => frozen_of_heap (k1.heap HH.out.head trivial)
      have d0 : W1.cell? ⟨t, 0, none⟩ = some (.slice AO outs.length cO) := cell_of_heap (k1.heap HH.out.head trivial)
      have HR := hid (show ListMid P w t vI outs inn rs.length (W1.setCell ⟨t, 0, none⟩ (.slice (some ⟨w.heap.size, 0, none⟩) N N)) from ⟨_, _, _, hP2, by rw [List.length_replicate]; have := HN.out; omega, by rw [List.length_replicate]; have := HN.out; omega, fun k hk => by
        rcases hk with hk | hk
        · exact .inl hk
        · have e : w.heap.size = k := by simpa [Value.ownBlock] using hk
          right; omega, hK2.mono fun k _ hk e => hk (by rw [e]; exact HH.out.ft)⟩)
      clear hP2 hK2 hrow k1
      go_wp2
      go_meet
      exact HR
    · have j1 : ¬ (outs.length : Int) < (rs.length : Int) := by omega
      have HR := hid (show ListMid P w t vI outs inn rs.length w from ⟨P, _, outs, HH.out, by omega, by omega, fun k hk => .inl hk, Keeps.refl _ _⟩)
      go_wp2
      go_meet
      exact HR
  case rest =>
    obtain ⟨P1, vO1, outs1, hP1, hl1, hl2, hPn1, hkp1⟩ := hcut.out
    clear hcut c0 cf b1 b2 HN HH hmk hcO
    obtain ⟨AO1, cO1, hvO1, hcO1, _⟩ := own_slice hP1.o
    subst hvO1
    obtain ⟨L, hL⟩ : ∃ L, L = outs1.length := ⟨_, rfl⟩
    rw [← hL] at hl1 hl2 hcO1 hP1
    have HS := hid (show InList P w t (.slice AO1 L cO1) L inn rs 0 wc from ⟨P1, vI, outs1, inn, hP1, hL.symm, by omega, fun j _ hj => by omega, hPn1, hkp1⟩)
    clear hP1 hPn1 hkp1 hL
    go_wp2
    go_loopw [5] (fun i wr => ∃ k : Nat, i = .int .i64 k ∧ k ≤ rs.length ∧ Hid (InList P w t (.slice AO1 L cO1) L inn rs k wr)) (fun i _ => rs.length - (intOf i).toNat)
    case atStart => exact ⟨0, rfl, Nat.zero_le _, HS⟩
    case round =>
      clear HS
      obtain ⟨k, rfl, hk, hin⟩ := hrel
      have i0 : (0 : Int) ≤ (k : Int) := by omega
      by_cases hlt : k < rs.length
      · have i1 : (k : Int) < (rs.length : Int) := by omega
        obtain ⟨P', vI', outs', inn', hP, hlo, hlin, hpre, hPn, hkp⟩ := hin.out
        clear hin
        obtain ⟨ha, hS, hrs⟩ := HA.out
        have ha1 := ha.keep (hkp.mono fun x _ hx => (hS x hx).1)
        obtain ⟨b, o, Ak, ck, rfl, hSb, hcell, hck, hbk⟩ := ha1.at_ hlt
        have hgO : ∃ gO, AO1 = some ⟨gO, 0, none⟩ := by
          obtain ⟨g, c', hv', _⟩ := own_cells hP.o (by omega)
          injection hv' with hA' _ _
          exact ⟨g, hA'⟩
        obtain ⟨gO, rfl⟩ := hgO
        have c0 : wr.cell? ⟨t, 0, none⟩ = some (.slice (some ⟨gO, 0, none⟩) L cO1) := cell_of_heap hP.head
        have i2 : (k : Int) < (L : Int) := by omega
        have b1 : IntKind.i64.wrap (1 + (k : Int)) = ((k + 1 : Nat) : Int) := by rw [IntKind.wrap_i64]; omega
        have hSP : ∀ x, S x → ¬ P' x := fun x hx hp => by
          rcases hPn x hp with h' | h'
          · exact (hS x hx).1 h'
          · have := (hS x hx).2; omega
        have hput := fun (W : World) (hW : Old wr W) => put_any W P' S t (k + 1) (.slice (some ⟨gO, 0, none⟩) L cO1) vI' outs' inn' (hP.keep (hW.old _)) Ak ck rs[k] (hbk.keep (hW.old _)) hSP hck (hrs _ (List.getElem_mem hlt)) (by omega)
        have HPUT := hid hput
        have HX := hid (And.intro hP (And.intro hlo (And.intro hlin (And.intro hpre (And.intro hPn hkp)))))
        have HSP := hid (And.intro hSb hSP)
        clear hput hP hlo hlin hpre hPn hkp ha ha1 hS hrs hbk hSb hSP
        go_upto_region 6 with fail
        refine wp_region_tree (fun w' => w'.cell? ⟨t, 0, none⟩ = some (.slice (some ⟨gO, 0, none⟩) L cO1) ∧ w'.cell? ⟨b, o + k, none⟩ = some (.slice Ak rs[k].length ck)) 15
          (.take 0 (.take 1 (.take 2 (.take 3 (.take 4 (.take 5 (.take 6 (.take 7 (.take 8 (.take 9 (.take 10 (.take 11 (.one 12 (.take 13 (.one 14 .tail))))))))))))))) (by kernel_rfl) (by kernel_rfl) ⟨c0, hcell⟩ ?_
        iterate 12 (refine pt_take (v := ?_) (by rfl) (by first | rfl | kernel_rfl) (fun w' hS => ?_) ?_; rotate_left 1; (obtain ⟨s0, s1⟩ := hS; go_simp <;> (try with_reducible rfl)); (simp only [Act.put, List.setIfInBounds_toArray, List.set_cons_zero, List.set_cons_succ]))
        refine pt_one (by rfl) (loudly_of (by first | rfl | kernel_rfl) (fun K hK => ?_))
        have kd : Old wr wr.drew := (Keeps.refl _ _).drew
        have hpu := HPUT.out _ kd
        clear HPUT
        go_wp2_with fail
        refine hpu.mono ?_
        rintro e w1 ⟨P2, vI2, inn2, g, c2, rfl, hc2, hP2, hb2, hg2, hot2, hl21, hl22, hPn2, hk2⟩
        obtain ⟨hP, hlo, hlin, hpre, hPn, hkp⟩ := HX.out
        obtain ⟨hSb, hSP⟩ := HSP.out
        have hk2' := hk2.ofDrew
        have d0 : w1.cell? ⟨t, 0, none⟩ = some (.slice (some ⟨gO, 0, none⟩) L cO1) := cell_of_heap hP2.head
        have d1 : w1.cell? ⟨b, o + k, none⟩ = some (.slice Ak rs[k].length ck) := (hk2'.cell (lt_of_cell hcell) (.inl (hSP b hSb))).trans hcell
        obtain ⟨hP3, hK3⟩ := hP2.setO (i := k) (v := .slice (some ⟨g, 0, none⟩) rs[k].length c2) hlo.symm
        have f0 : (w1.setCell ⟨gO, k, none⟩ (.slice (some ⟨g, 0, none⟩) rs[k].length c2)).cell? ⟨t, 0, none⟩ = some (.slice (some ⟨gO, 0, none⟩) L cO1) := cell_of_heap hP3.head
        have f1 : (w1.setCell ⟨gO, k, none⟩ (.slice (some ⟨g, 0, none⟩) rs[k].length c2)).cell? ⟨b, o + k, none⟩ = some (.slice Ak rs[k].length ck) := (hK3.cell (lt_of_cell d1) (fun e => by
          have e' : b = gO := e
          subst e'
          exact hSP _ hSb (hP.of _ rfl))).trans d1
        have ho2 := hP2.o
        rw [hlo] at ho2
        have hrw := Row1.ofOwn ho2
        obtain ⟨u, hu⟩ := hrw.some_ (i := k) (by omega)
        have huf := hrw.frozen
        have HR := hid (InList.step hlt hP hlo (by omega) hlin hpre hPn hkp hc2 hP2 hb2 hg2 hot2 hl22 (by simpa using hPn2) hk2')
        clear hP hlo hlin hpre hPn hkp hP2 hb2 hg2 hot2 hl21 hl22 hPn2 hk2 hk2' hP3 hK3 hrw ho2 hSP
        refine hK _ _ ⟨d0, d1⟩ ?_
        clear hK K
        (refine pt_take (v := ?_) (by rfl) (by first | rfl | kernel_rfl) (fun w' hS => ?_) ?_; rotate_left 1; (obtain ⟨s0, s1⟩ := hS; go_simp <;> (try with_reducible rfl)); (simp only [Act.put, List.setIfInBounds_toArray, List.set_cons_zero, List.set_cons_succ]))
        refine pt_one (by rfl) (loudly_of (by first | rfl | kernel_rfl) (fun K hK => ?_))
        go_wp2
        refine hK _ _ ⟨f0, f1⟩ ?_
        clear hK K
        refine pt_tail (by rfl) ?_
        go_wp2
        refine NoPanic.normal ?_
        go_wp2
        exact ⟨⟨k + 1, by go_num, by omega, HR⟩, by simp [intOf]; omega⟩
      · obtain rfl : k = rs.length := by omega
        have i1 : ¬ ((rs.length : Nat) : Int) < (rs.length : Int) := by omega
        obtain ⟨P', vI', outs', inn', hP, _⟩ := hin.out
        have c0 : wr.cell? ⟨t, 0, none⟩ = some (.slice AO1 L cO1) := cell_of_heap hP.head
        have i2 : (rs.length : Int) ≤ (L : Int) := by omega
        have i3 : (rs.length : Int) ≤ (cO1 : Int) := by omega
        have HR := hid (hin.out.done hl2 hl1 (by omega) (by omega))
        clear hP hin
        go_wp2
        go_ret
        exact HR.out
end Go.Proofs.YtdpaaoeipconcaaDoor

