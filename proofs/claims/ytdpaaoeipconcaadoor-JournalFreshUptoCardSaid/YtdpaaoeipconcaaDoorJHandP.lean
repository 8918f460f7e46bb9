/- weftlaw12.Pair.handed: lists handed in with spare room behind them, in memory. Plain theorems; no conditions beyond those written. -/
import Derived.Test.YtdpaaoeipconcaaDoorJReo
import Derived.Test.YtdpaaoeipconcaaDoorJPlays1
import Derived.Test.YtdpaaoeipconcaaDoorJPlaced
namespace Go.Proofs.YtdpaaoeipconcaaDoor
open Go.RowKit

/-- a record with its spare room, the whole of it; the record alone -/
def RV (y : List UInt8 × Nat) : Value := .slice (some ⟨y.2, 0, none⟩) (y.1.length + 64) (y.1.length + 64)
def XV (y : List UInt8 × Nat) : Value := .slice (some ⟨y.2, 0, none⟩) y.1.length (y.1.length + 64)

/-- Records with their spare room, each in a block of its own, from b0 on. -/
structure Rooms (b0 : Nat) (w : World) (q : List (List UInt8 × Nat)) : Prop where
  row : ∀ y ∈ q, Row1 w 5 y.2 (y.1.length + 64) ((roomyB y.1).map bv)
  new : ∀ y ∈ q, b0 ≤ y.2
  dis : q.Pairwise fun y z => y.2 ≠ z.2

section
variable {b0 : Nat} {w w' : World} {q : List (List UInt8 × Nat)} {S : Nat → Prop}
theorem Rooms.keep (h : Rooms b0 w q) (hk : Keeps S w w') (hS : ∀ y ∈ q, S y.2) : Rooms b0 w' q := ⟨fun y hy => (h.row y hy).keep hk (hS y hy), h.new, h.dis⟩
theorem Rooms.nil (b0 : Nat) (w : World) : Rooms b0 w [] := ⟨by simp, by simp, List.Pairwise.nil⟩
theorem Rooms.push (h : Rooms b0 w q) {y : List UInt8 × Nat} (hy : Row1 w 5 y.2 (y.1.length + 64) ((roomyB y.1).map bv)) (hn : b0 ≤ y.2) (hd : ∀ z ∈ q, z.2 ≠ y.2) : Rooms b0 w (q ++ [y]) := by
  refine ⟨fun z hz => ?_, fun z hz => ?_, List.pairwise_append.2 ⟨h.dis, List.pairwise_singleton _ _, fun z hz u hu => by
    obtain rfl : u = y := by simpa using hu
    exact hd z hz⟩⟩
  · rcases List.mem_append.1 hz with hz | hz
    · exact h.row z hz
    · obtain rfl : z = y := by simpa using hz
      exact hy
  · rcases List.mem_append.1 hz with hz | hz
    · exact h.new z hz
    · obtain rfl : z = y := by simpa using hz
      exact hn
theorem Rooms.lt (h : Rooms b0 w q) : ∀ y ∈ q, y.2 < w.heap.size := fun y hy => (h.row y hy).lt
/-- The record alone. -/
theorem Rooms.bts (h : Rooms b0 w q) {y : List UInt8 × Nat} (hy : y ∈ q) (hl : y.1.length ≤ 1000000000000) : Bts (fun k => k = y.2) w (some ⟨y.2, 0, none⟩) y.1 := by
  have h := (h.row y hy).bts (n := y.1.length) (by rw [roomyB_length]; omega) (by omega)
  rw [roomyB_take] at h
  exact h
end

/-- ahead of a round of the first loop -/
def InHand1 (w : World) (gxo : Nat) (kd n : Int) (vX : Value) (many : List (List UInt8)) (k : Nat) (vR : Value) (wr : World) : Prop :=
  ∃ q XR, q.map (·.1) = many.take k ∧ Rooms w.heap.size wr q ∧ wr.ownsRow 0 22 1 vR k (q.map RV) ∧ wr.ownsRow 0 22 1 XR k (q.map XV) ∧ (∀ i, vR.ownBlock = some i → w.heap.size ≤ i ∧ XR.ownBlock ≠ some i) ∧ (∀ i, XR.ownBlock = some i → w.heap.size ≤ i) ∧
    wr.heap[gxo]? = some (.cells #[.int .i64 kd, vX, XR, .int .i64 n] 54 (0, 0)) ∧ Keeps (fun i => i ≠ gxo) w wr

/-- One record more. -/
theorem InHand1.step {w wr w1 W2 w3 W4 w5 : World} {gxo k : Nat} {kd n : Int} {vX vR vR3 XR5 : Value} {many : List (List UInt8)} {XR : Value} {q : List (List UInt8 × Nat)} (hk : k < many.length)
    (hq : q.map (·.1) = many.take k) (hR : Rooms w.heap.size wr q) (hr : wr.ownsRow 0 22 1 vR k (q.map RV)) (hx : wr.ownsRow 0 22 1 XR k (q.map XV)) (hrn : ∀ i, vR.ownBlock = some i → w.heap.size ≤ i ∧ XR.ownBlock ≠ some i) (hxn : ∀ i, XR.ownBlock = some i → w.heap.size ≤ i)
    (hg : wr.heap[gxo]? = some (.cells #[.int .i64 kd, vX, XR, .int .i64 n] 54 (0, 0))) (hkp : Keeps (fun i => i ≠ gxo) w wr) (_ : gxo < w.heap.size)
    (h1 : Row1 w1 5 wr.heap.size (many[k].length + 64) ((roomyB many[k]).map bv)) (k1 : Old wr w1) (k2 : Old w1 W2)
    (h3 : w3.ownsRow 0 22 1 vR3 (k + 1) (q.map RV ++ [RV (many[k], wr.heap.size)])) (hg3 : W2.grownBy w3 vR.ownBlock) (hat3 : vR3.ownBlock = vR.ownBlock ∨ vR3.ownBlock = some W2.heap.size) (k4 : Old w3 W4)
    (h5 : w5.ownsRow 0 22 1 XR5 (k + 1) (q.map XV ++ [XV (many[k], wr.heap.size)])) (hg5 : W4.grownBy w5 XR.ownBlock) (hat5 : XR5.ownBlock = XR.ownBlock ∨ XR5.ownBlock = some W4.heap.size) :
    InHand1 w gxo kd n vX many (k + 1) vR3 (w5.setCell ⟨gxo, 2, none⟩ XR5) ∧ w5.heap[gxo]? = some (.cells #[.int .i64 kd, vX, XR, .int .i64 n] 54 (0, 0)) ∧ Keeps (fun i => i < wr.heap.size ∧ vR.ownBlock ≠ some i ∧ XR.ownBlock ≠ some i) wr w5 := by
  have K3 : Keeps (fun i => vR.ownBlock ≠ some i) W2 w3 := (Keeps.refl _ W2).grown hg3 (fun i _ h hn => hn h)
  have K5 : Keeps (fun i => XR.ownBlock ≠ some i) W4 w5 := (Keeps.refl _ W4).grown hg5 (fun i _ h hn => hn h)
  have z0 := hkp.size
  have z1 := k1.size
  have z2 := k2.size
  have z3 := K3.size
  have z4 := k4.size
  have z5 := K5.size
  have KB : Keeps (fun i => vR.ownBlock ≠ some i ∧ XR.ownBlock ≠ some i) wr w5 := ((((k1.trans' k2).old _).trans' (K3.mono fun i _ h => h.1)).trans' (k4.old _)).trans' (K5.mono fun i _ h => h.2)
  have hvg : vR.ownBlock ≠ some gxo := own_ne_heap hr hg (by decide)
  have hxg : XR.ownBlock ≠ some gxo := own_ne_heap hx hg (by decide)
  have hg5' := KB.heap hg ⟨hvg, hxg⟩
  have KS : Keeps (· ≠ gxo) w5 (w5.setCell ⟨gxo, 2, none⟩ XR5) := (Keeps.refl _ _).setCell (fun _ h => h rfl) _
  have hrlt : ∀ i, vR.ownBlock = some i → i < wr.heap.size := fun i hi => own_lt hr hi
  have hxlt : ∀ i, XR.ownBlock = some i → i < wr.heap.size := fun i hi => own_lt hx hi
  -- the row of rooms, apart from the other row
  have hvx3 : ∀ i, vR3.ownBlock = some i → XR.ownBlock ≠ some i := fun i hi e => by
    rcases hat3 with h | h
    · rw [h] at hi; exact (hrn i hi).2 e
    · rw [h] at hi; injection hi with hi; have := hxlt i e; omega
  have hr5 := own_keeps (own_keeps h3 k4 (fun _ _ => trivial)) K5 hvx3
  have hr5g : vR3.ownBlock ≠ some gxo := own_ne_heap hr5 hg5' (by decide)
  have hx5g : XR5.ownBlock ≠ some gxo := own_ne_heap h5 hg5' (by decide)
  have hblk : ∀ {i : Nat} {c : Nat} {zs : List Value}, Row1 wr 5 i c zs → vR.ownBlock ≠ some i ∧ XR.ownBlock ≠ some i ∧ i ≠ gxo := fun h => by
    obtain ⟨cur, hc, _⟩ := h
    refine ⟨own_ne_heap hr hc (by decide), own_ne_heap hx hc (by decide), fun e => ?_⟩
    subst e
    rw [hc] at hg
    injection hg with hg
    injection hg with _ ht _
    exact absurd ht (by decide)
  have hnew : Row1 (w5.setCell ⟨gxo, 2, none⟩ XR5) 5 wr.heap.size (many[k].length + 64) ((roomyB many[k]).map bv) := by
    have h2 := h1.keep k2 trivial
    have h3' := h2.keep K3 (fun e => by have := hrlt _ e; omega)
    have h5' := (h3'.keep k4 trivial).keep K5 (fun e => by have := hxlt _ e; omega)
    exact h5'.keep KS (fun e => by have := lt_of_heap hg; omega)
  refine ⟨⟨q ++ [(many[k], wr.heap.size)], XR5, ?_, ?_, ?_, ?_, fun i hi => ⟨?_, fun e => ?_⟩, fun i hi => ?_, ?_, ?_⟩, hg5', KB.mono fun i _ h => h.2⟩
  · rw [List.map_append, hq, List.take_succ_eq_append_getElem hk]
    rfl
  · refine (Rooms.keep (S := fun i => i < wr.heap.size ∧ i ≠ gxo ∧ vR.ownBlock ≠ some i ∧ XR.ownBlock ≠ some i) hR ((KB.mono fun i _ h => h.2.2).trans' (KS.mono fun i _ h => h.2.1)) fun y hy => ?_).push hnew (by show w.heap.size ≤ wr.heap.size; omega) fun z hz e => ?_
    · obtain ⟨a, b, c⟩ := hblk (hR.row y hy)
      exact ⟨hR.lt y hy, c, a, b⟩
    · have := hR.lt z hz
      have e' : z.2 = wr.heap.size := e
      omega
  · rw [List.map_append]
    exact own_keeps hr5 KS (fun i hi e => hr5g (by rw [hi, e]))
  · rw [List.map_append]
    exact own_keeps h5 KS (fun i hi e => hx5g (by rw [hi, e]))
  · rcases hat3 with h | h
    · rw [h] at hi; exact (hrn i hi).1
    · rw [h] at hi; injection hi with hi; omega
  · rcases hat5 with h | h
    · rw [h] at e; exact hvx3 i hi e
    · rw [h] at e
      injection e with e
      have := own_lt h3 hi
      omega
  · rcases hat5 with h | h
    · rw [h] at hi; exact hxn i hi
    · rw [h] at hi; injection hi with hi; omega
  · rw [heap_setCell hg5']
    rfl
  · exact (hkp.trans KB fun i hi _ => ⟨fun e => by have := (hrn i e).1; omega, fun e => by have := hxn i e; omega⟩).trans' (KS.mono fun _ _ h => h)

/-- a byte in a block of its own -/
def OneAt (b0 : Nat) (w : World) (v : Value) (i : Nat) : Prop := ∃ h, v = .slice (some ⟨h, 0, none⟩) 1 1 ∧ w.heap[h]? = some (.cells #[.int .u8 (((7 + i) % 256 : Nat) : Int)] 5 (0, 0)) ∧ b0 ≤ h

/-- ahead of a round of the second loop -/
def InHand2 (w : World) (ga NA m : Nat) (q : List (List UInt8 × Nat)) (k : Nat) (wr : World) : Prop :=
  ∃ vals : List Value, vals.length = k ∧ Row1 wr 22 ga NA vals ∧ (∀ i (h : i < q.length), i < k → vals[i]? = some (XV q[i])) ∧ (∀ i, m ≤ i → i < k → ∃ v, vals[i]? = some v ∧ OneAt w.heap.size wr v i) ∧ Keeps (· ≠ ga) w wr

theorem InHand2.one {w wr : World} {ga NA k : Nat} {q : List (List UInt8 × Nat)} (h : InHand2 w ga NA q.length q k wr) (hga : ga < w.heap.size) (hk : k < NA) (hm : q.length ≤ k) {bt : Nat} (hbt : bt = (7 + k) % 256) :
    InHand2 w ga NA q.length q (k + 1) ((wr.alloc (.cells #[.int .u8 (bt : Int)] 5)).setCell ⟨ga, k, none⟩ (.slice (some ⟨wr.heap.size, 0, none⟩) 1 1)) := by
  obtain ⟨vals, hl, hr, h1, h2, hkp⟩ := h
  subst hl
  have ka : Old wr (wr.alloc (.cells #[.int .u8 (bt : Int)] 5)) := (Keeps.refl _ _).alloc _
  have hb : (wr.alloc (.cells #[.int .u8 (bt : Int)] 5)).heap[wr.heap.size]? = some (.cells #[.int .u8 (bt : Int)] 5 (0, 0)) := heap_alloc_new _ _
  have hz := hkp.size
  have KS : Keeps (· ≠ ga) (wr.alloc (.cells #[.int .u8 (bt : Int)] 5)) ((wr.alloc (.cells #[.int .u8 (bt : Int)] 5)).setCell ⟨ga, vals.length, none⟩ (.slice (some ⟨wr.heap.size, 0, none⟩) 1 1)) := (Keeps.refl _ _).setCell (fun _ h => h rfl) _
  refine ⟨_, by simp, (hr.keep ka trivial).push hk _, fun i hi hik => by rw [List.getElem?_append_left (by omega)]; exact h1 i hi (by omega), fun i hm' hik => ?_, (hkp.trans' (ka.old _)).trans' KS⟩
  by_cases hi : i < vals.length
  · obtain ⟨v, e, g, e', hg, hn⟩ := h2 i hm' hi
    exact ⟨v, by rw [List.getElem?_append_left hi]; exact e, g, e', KS.heap (ka.heap hg trivial) (show g ≠ ga by omega), hn⟩
  · obtain rfl : i = vals.length := by omega
    exact ⟨_, by simp, wr.heap.size, rfl, KS.heap (by rw [← hbt]; exact hb) (show wr.heap.size ≠ ga by omega), hz⟩

theorem InHand2.two {w wr : World} {ga NA k : Nat} {q : List (List UInt8 × Nat)} (h : InHand2 w ga NA q.length q k wr) (_ : ga < w.heap.size) (hk : k < NA) (hm : k < q.length) {bt : Nat} {o : Value} :
    InHand2 w ga NA q.length q (k + 1) (((wr.alloc (.cells #[.int .u8 (bt : Int)] 5)).setCell ⟨ga, k, none⟩ o).setCell ⟨ga, k, none⟩ (XV q[k])) := by
  obtain ⟨vals, hl, hr, h1, h2, hkp⟩ := h
  subst hl
  have ka : Old wr (wr.alloc (.cells #[.int .u8 (bt : Int)] 5)) := (Keeps.refl _ _).alloc _
  have KS : Keeps (· ≠ ga) (wr.alloc (.cells #[.int .u8 (bt : Int)] 5)) (((wr.alloc (.cells #[.int .u8 (bt : Int)] 5)).setCell ⟨ga, vals.length, none⟩ o).setCell ⟨ga, vals.length, none⟩ (XV q[vals.length])) := ((Keeps.refl _ _).setCell (fun _ h => h rfl) _).setCell (fun _ h => h rfl) _
  have hp := ((hr.keep ka trivial).push hk o).set vals.length (XV q[vals.length])
  have e : (vals ++ [o]).set vals.length (XV q[vals.length]) = vals ++ [XV q[vals.length]] := by
    rw [List.set_append_right _ _ (Nat.le_refl _), Nat.sub_self]
    rfl
  rw [e] at hp
  refine ⟨_, by simp, hp, fun i hi hik => ?_, fun i hm' hik => by omega, (hkp.trans' (ka.old _)).trans' KS⟩
  by_cases hi2 : i < vals.length
  · rw [List.getElem?_append_left hi2]
    exact h1 i hi hi2
  · obtain rfl : i = vals.length := by omega
    simp

/-- All that lies behind the second loop. -/
structure HandA (b0 go gxo gr ga nr NA : Nat) (kd n : Int) (vA vB : Value) (one : List UInt8) (many : List (List UInt8)) (vR : Value) (q : List (List UInt8 × Nat)) (wr : World) : Prop where
  o : wr.heap[go]? = some (.cells #[.int .i64 kd, vA, vB, .int .i64 n] 54 (0, 0))
  x : wr.heap[gxo]? = some (.cells #[.int .i64 kd, .slice (some ⟨gr, 0, none⟩) one.length nr, .slice (some ⟨ga, 0, none⟩) many.length NA, .int .i64 n] 54 (0, 0))
  r : Row1 wr 5 gr nr ((roomyB one).map bv)
  rooms : Rooms b0 wr q
  qe : q.map (·.1) = many
  vr : wr.ownsRow 0 22 1 vR many.length (q.map RV)
  vrn : ∀ i, vR.ownBlock = some i → b0 ≤ i
  all : ∃ vals : List Value, vals.length = NA ∧ Row1 wr 22 ga NA vals ∧ (∀ i (h : i < q.length), vals[i]? = some (XV q[i])) ∧ (∀ i, many.length ≤ i → i < NA → ∃ v, vals[i]? = some v ∧ OneAt b0 wr v i)
  hgo : go < gr
  hgr : gr < gxo
  hgx : gxo < b0
  hga : b0 ≤ ga

section
variable {b0 go gxo gr ga nr NA : Nat} {kd n : Int} {vA vB : Value} {one : List UInt8} {many : List (List UInt8)} {vR : Value} {q : List (List UInt8 × Nat)} {w wr w' : World}
theorem HandA.keep (h : HandA b0 go gxo gr ga nr NA kd n vA vB one many vR q wr) (hk : Keeps (fun i => go ≤ i) wr w') : HandA b0 go gxo gr ga nr NA kd n vA vB one many vR q w' := by
  have a1 := h.hgo
  have a2 := h.hgr
  have a3 := h.hgx
  have a4 := h.hga
  refine ⟨hk.heap h.o (Nat.le_refl go), hk.heap h.x (show go ≤ gxo by omega), h.r.keep hk (show go ≤ gr by omega), h.rooms.keep hk fun y hy => by have := h.rooms.new y hy; show go ≤ y.2; omega, h.qe, own_keeps h.vr hk fun i hi => by have := h.vrn i hi; omega, h.vrn, ?_, a1, a2, a3, a4⟩
  obtain ⟨vals, hl, hr, h1, h2⟩ := h.all
  refine ⟨vals, hl, hr.keep hk (show go ≤ ga by omega), h1, fun i hm hi => ?_⟩
  obtain ⟨v, e, g, e', hg, hn⟩ := h2 i hm hi
  exact ⟨v, e, g, e', hk.heap hg (show go ≤ g by omega), hn⟩
theorem HandA.len (h : HandA b0 go gxo gr ga nr NA kd n vA vB one many vR q wr) : q.length = many.length := by rw [← h.qe]; simp
/-- The records read as they are. -/
theorem HandA.rcs (h : HandA b0 go gxo gr ga nr NA kd n vA vB one many vR q wr) (hm : many.length ≤ 1000000000000) (hl : ∀ r ∈ many, r.length ≤ 1000000000000) : Rcs (fun i => go ≤ i ∧ i < wr.heap.size) wr (some ⟨ga, 0, none⟩) many := by
  have a1 := h.hgo
  have a2 := h.hgr
  have a3 := h.hgx
  have a4 := h.hga
  obtain ⟨vals, hvl, hr, h1, h2⟩ := h.all
  refine ⟨by omega, fun hn => ⟨ga, 0, rfl, ⟨by omega, hr.lt⟩, fun i hi => ?_⟩⟩
  have hi' : i < q.length := by rw [h.len]; exact hi
  have e : q[i].1 = many[i] := by
    have h3 : (q.map (·.1))[i]? = many[i]? := by rw [h.qe]
    rw [List.getElem?_map, List.getElem?_eq_getElem hi', List.getElem?_eq_getElem hi] at h3
    exact Option.some.inj h3
  have hv := h1 i hi'
  have hiv : i < vals.length := (List.getElem?_eq_some_iff.1 hv).1
  refine ⟨some ⟨q[i].2, 0, none⟩, q[i].1.length + 64, ?_, by rw [← e]; omega, ?_⟩
  · rw [Nat.zero_add, hr.cell hiv, hv]
    unfold XV
    rw [e]
  · have hb := h.rooms.bts (List.getElem_mem hi') (by rw [e]; exact hl _ (List.getElem_mem hi))
    rw [e] at hb
    exact hb.mono fun j hj e' => by
      have h4 := h.rooms.new _ (List.getElem_mem hi')
      have e'' : j = q[i].2 := e'
      constructor
      · show go ≤ j; omega
      · exact hj
theorem HandA.one_ (h : HandA b0 go gxo gr ga nr NA kd n vA vB one many vR q wr) (hl : one.length ≤ 1000000000000) : Bts (fun i => go ≤ i ∧ i < wr.heap.size) wr (some ⟨gr, 0, none⟩) one := by
  have hb := h.r.bts (n := one.length) (by rw [roomyB_length]; omega) (by omega)
  rw [roomyB_take] at hb
  have a1 := h.hgo
  exact hb.mono fun j hj e => by
    have e' : j = gr := e
    exact ⟨by show go ≤ j; omega, hj⟩
end
end Go.Proofs.YtdpaaoeipconcaaDoor
