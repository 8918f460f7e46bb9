/- weftlaw18.UnderFresh: packets handed in with spare room behind them, in memory; what a round leaves. Plain theorems; no conditions beyond those written. -/
import Derived.Test.YtgnndggbjipioaaAUn
import Derived.Test.YtgnndggbjipioaaAPlaced
namespace Go.Proofs.Ytgnndggbjipioaa
open Go.RowKit

/-- a packet's bytes with their spare room, the whole of it; the bytes alone -/
def RV (y : List UInt8 × Nat) : Value := .slice (some ⟨y.2, 0, none⟩) (y.1.length + 64) (y.1.length + 64)
def XV (y : List UInt8 × Nat) : Value := .slice (some ⟨y.2, 0, none⟩) y.1.length (y.1.length + 64)

/-- Bytes with their spare room, each in a block of its own, from b0 on. -/
structure Rooms (b0 : Nat) (w : World) (q : List (List UInt8 × Nat)) : Prop where
  row : ∀ y ∈ q, Row1 w 5 y.2 (y.1.length + 64) ((roomyB y.1).map bv)
  new : ∀ y ∈ q, b0 ≤ y.2
  dis : q.Pairwise fun y z => y.2 ≠ z.2

section
variable {b0 : Nat} {w w' : World} {q : List (List UInt8 × Nat)} {S : Nat → Prop}
theorem Rooms.keep (h : Rooms b0 w q) (hk : Keeps S w w') (hS : ∀ y ∈ q, S y.2) : Rooms b0 w' q := ⟨fun y hy => (h.row y hy).keep hk (hS y hy), h.new, h.dis⟩
theorem Rooms.nil (b0 : Nat) (w : World) : Rooms b0 w [] := ⟨by simp, by simp, List.Pairwise.nil⟩
theorem Rooms.push (h : Rooms b0 w q) {y : List UInt8 × Nat} (hy : Row1 w 5 y.2 (y.1.length + 64) ((roomyB y.1).map bv)) (hn : b0 ≤ y.2) (hd : ∀ z ∈ q, z.2 ≠ y.2) : Rooms b0 w (q ++ [y]) := by
  refine ⟨fun z hz => ?_, fun z hz => ?_, List.pairwise_append.2 ⟨h.dis, List.pairwise_singleton _ _, fun z hz u hu => by
    obtain rfl : u = y := by simpa using hu
    exact hd z hz⟩⟩
  · rcases List.mem_append.1 hz with hz | hz
    · exact h.row z hz
    · obtain rfl : z = y := by simpa using hz
      exact hy
  · rcases List.mem_append.1 hz with hz | hz
    · exact h.new z hz
    · obtain rfl : z = y := by simpa using hz
      exact hn
theorem Rooms.lt (h : Rooms b0 w q) : ∀ y ∈ q, y.2 < w.heap.size := fun y hy => (h.row y hy).lt
/-- The bytes alone. -/
theorem Rooms.bts (h : Rooms b0 w q) {y : List UInt8 × Nat} (hy : y ∈ q) (hl : y.1.length ≤ 1000000000000) : Bts (fun k => k = y.2) w (some ⟨y.2, 0, none⟩) y.1 := by
  have h := (h.row y hy).btsT (n := y.1.length) (by rw [roomyB_length]; omega) (by omega)
  rw [roomyB_take] at h
  exact h
end

/-- what a place of 'in' holds ahead of round k: where to; the bytes -/
def toC (ps : List Pk) (k i : Nat) : Value := .int .u32 (if i < k then (ps[i]?.map (·.1)).getD ((7000 + i : Nat) : Int) else 0)
def byC (q : List (List UInt8 × Nat)) (i : Nat) : Value := (q[i]?.map XV).getD (.slice none 0 0)
def InX (xs : List Value) (NA : Nat) (ps : List Pk) (q : List (List UInt8 × Nat)) (k : Nat) : Prop :=
  xs.length = NA * 2 ∧ ∀ i, i < NA → xs[i * 2]? = some (toC ps k i) ∧ xs[i * 2 + 1]? = some (byC q i)

theorem InX.nil {NA : Nat} {ps : List Pk} : InX (madeCells #[.int .u32 0, .slice none 0 0] (NA * 2)).toList NA ps [] 0 := by
  refine ⟨by rw [Array.length_toList, size_madeCells], fun i hi => ?_⟩
  obtain ⟨h0, h1⟩ := madeCells_two (.int .u32 0) (.slice none 0 0) NA hi
  rw [Array.getElem?_toList, Array.getElem?_toList, h0, h1]
  exact ⟨by unfold toC; simp, rfl⟩
theorem InX.one {xs : List Value} {NA k : Nat} {ps : List Pk} {q : List (List UInt8 × Nat)} (h : InX xs NA ps q k) (hk : k < NA) (hp : ps.length ≤ k) : InX (xs.set (k * 2) (.int .u32 ((7000 + k : Nat) : Int))) NA ps q (k + 1) := by
  obtain ⟨hl, hx⟩ := h
  refine ⟨by rw [List.length_set]; exact hl, fun i hi => ?_⟩
  obtain ⟨h0, h1⟩ := hx i hi
  by_cases hik : i = k
  · subst hik
    refine ⟨?_, by rw [List.getElem?_set_ne (by omega)]; exact h1⟩
    rw [List.getElem?_set_self (by omega)]
    unfold toC
    rw [if_pos (by omega), List.getElem?_eq_none hp]
    rfl
  · refine ⟨?_, by rw [List.getElem?_set_ne (by omega)]; exact h1⟩
    rw [List.getElem?_set_ne (by omega), h0]
    unfold toC
    by_cases h3 : i < k
    · rw [if_pos h3, if_pos (by omega)]
    · rw [if_neg h3, if_neg (by omega)]
theorem InX.two {xs : List Value} {NA k : Nat} {ps : List Pk} {q : List (List UInt8 × Nat)} (h : InX xs NA ps q k) (hk : k < NA) (hp : k < ps.length) (hq : q.length = k) (v : Value) (y : List UInt8 × Nat) : InX (((xs.set (k * 2) v).set (k * 2) (.int .u32 ps[k].1)).set (k * 2 + 1) (XV y)) NA ps (q ++ [y]) (k + 1) := by
  obtain ⟨hl, hx⟩ := h
  refine ⟨by rw [List.length_set, List.length_set, List.length_set]; exact hl, fun i hi => ?_⟩
  obtain ⟨h0, h1⟩ := hx i hi
  by_cases hik : i = k
  · subst hik
    refine ⟨?_, ?_⟩
    · rw [List.getElem?_set_ne (by omega), List.getElem?_set_self (by rw [List.length_set]; omega)]
      unfold toC
      rw [if_pos (by omega), List.getElem?_eq_getElem hp]
      rfl
    · rw [List.getElem?_set_self (by rw [List.length_set, List.length_set]; omega)]
      unfold byC
      rw [← hq, List.getElem?_append_right (Nat.le_refl _), Nat.sub_self]
      rfl
  · refine ⟨?_, ?_⟩
    · rw [List.getElem?_set_ne (by omega), List.getElem?_set_ne (by omega), List.getElem?_set_ne (by omega), h0]
      unfold toC
      by_cases h3 : i < k
      · rw [if_pos h3, if_pos (by omega)]
      · rw [if_neg h3, if_neg (by omega)]
    · rw [List.getElem?_set_ne (by omega), List.getElem?_set_ne (by omega), List.getElem?_set_ne (by omega), h1]
      unfold byC
      by_cases h3 : i < k
      · rw [List.getElem?_append_left (by omega)]
      · rw [List.getElem?_eq_none (by omega), List.getElem?_eq_none (by rw [List.length_append]; show q.length + 1 ≤ i; omega)]

/-- What is handed in, ahead of round k of the loop that lays it. -/
structure HandS (b0 ga NA : Nat) (ps : List Pk) (k : Nat) (vR : Value) (q : List (List UInt8 × Nat)) (w : World) : Prop where
  qe : q.map (·.1) = (ps.map (·.2)).take k
  rooms : Rooms b0 w q
  vr : w.ownsRow 0 46 1 vR q.length (q.map RV)
  vrn : ∀ i, vR.ownBlock = some i → b0 ≤ i
  inn : ∃ xs, RowS w 48 2 ga NA xs ∧ InX xs NA ps q k
  ga0 : b0 ≤ ga

section
variable {b0 ga NA k : Nat} {ps : List Pk} {vR : Value} {q : List (List UInt8 × Nat)} {w w' : World} {S : Nat → Prop}
theorem HandS.len (h : HandS b0 ga NA ps k vR q w) : q.length = min k ps.length := by
  have e := congrArg List.length h.qe
  rw [List.length_map, List.length_take, List.length_map] at e
  exact e
theorem HandS.keep (h : HandS b0 ga NA ps k vR q w) (hk : Keeps S w w') (hq : ∀ y ∈ q, S y.2) (hv : ∀ i, vR.ownBlock = some i → S i) (hg : S ga) : HandS b0 ga NA ps k vR q w' := by
  obtain ⟨xs, hr, hx⟩ := h.inn
  exact ⟨h.qe, h.rooms.keep hk hq, own_keeps h.vr hk hv, h.vrn, ⟨xs, hr.keep hk hg, hx⟩, h.ga0⟩
theorem HandS.gaq (h : HandS b0 ga NA ps k vR q w) : (∀ y ∈ q, y.2 ≠ ga) ∧ vR.ownBlock ≠ some ga ∧ ∀ y ∈ q, vR.ownBlock ≠ some y.2 := by
  obtain ⟨xs, ⟨cur, hg, _⟩, _⟩ := h.inn
  refine ⟨fun y hy e => ?_, own_ne_heap h.vr hg (by decide), fun y hy => ?_⟩
  · obtain ⟨cu, hc, _⟩ := h.rooms.row y hy
    rw [e, hg] at hc
    injection hc with hc
    injection hc with _ hc _
    exact absurd hc (by decide)
  · obtain ⟨cu, hc, _⟩ := h.rooms.row y hy
    exact own_ne_heap h.vr hc (by decide)
/-- A spare place. -/
theorem HandS.one (h : HandS b0 ga NA ps k vR q w) (hk : k < NA) (hp : ps.length ≤ k) : HandS b0 ga NA ps (k + 1) vR q (w.setCell ⟨ga, k * 2, none⟩ (.int .u32 ((7000 + k : Nat) : Int))) ∧ Keeps (· ≠ ga) w (w.setCell ⟨ga, k * 2, none⟩ (.int .u32 ((7000 + k : Nat) : Int))) := by
  have KS : Keeps (· ≠ ga) w (w.setCell ⟨ga, k * 2, none⟩ (.int .u32 ((7000 + k : Nat) : Int))) := (Keeps.refl _ _).setCell (fun _ h => h rfl) _
  obtain ⟨xs, hr, hx⟩ := h.inn
  obtain ⟨g1, g2, _⟩ := h.gaq
  exact ⟨⟨by rw [h.qe, List.take_of_length_le (by rw [List.length_map]; omega), List.take_of_length_le (by rw [List.length_map]; omega)], h.rooms.keep KS g1, own_keeps h.vr KS fun i hi e => g2 (by rw [← e]; exact hi), h.vrn, ⟨_, hr.set _ _, hx.one hk hp⟩, h.ga0⟩, KS⟩
/-- A packet. -/
theorem HandS.two {w1 w2 W3 w4 : World} {v vR2 : Value} {g : Nat} (h : HandS b0 ga NA ps k vR q w) (hk : k < NA) (hp : k < ps.length) (hb0 : b0 ≤ w.heap.size) (e1 : w1 = w.setCell ⟨ga, k * 2, none⟩ v) (hg : g = w1.heap.size)
    (hr : Row1 w2 5 g (ps[k].2.length + 64) ((roomyB ps[k].2).map bv)) (k2 : Old w1 w2) (k3 : Old w2 W3) (h4 : w4.ownsRow 0 46 1 vR2 (q.length + 1) (q.map RV ++ [RV (ps[k].2, g)])) (hg4 : W3.grownBy w4 vR.ownBlock) (hat4 : vR2.ownBlock = vR.ownBlock ∨ vR2.ownBlock = some W3.heap.size) :
    HandS b0 ga NA ps (k + 1) vR2 (q ++ [(ps[k].2, g)]) ((w4.setCell ⟨ga, k * 2, none⟩ (.int .u32 ps[k].1)).setCell ⟨ga, k * 2 + 1, none⟩ (XV (ps[k].2, g))) ∧
      Keeps (fun i => i ≠ ga ∧ (i < w.heap.size → vR.ownBlock ≠ some i)) w ((w4.setCell ⟨ga, k * 2, none⟩ (.int .u32 ps[k].1)).setCell ⟨ga, k * 2 + 1, none⟩ (XV (ps[k].2, g))) := by
  obtain ⟨xs, hx, hX⟩ := h.inn
  obtain ⟨g1, g2, g3⟩ := h.gaq
  have hlen := h.len
  rw [Nat.min_eq_left (by omega)] at hlen
  have z1 : w1.heap.size = w.heap.size := by rw [e1]; simp
  have z2 := k2.size
  have z3 := k3.size
  have K1 : Keeps (· ≠ ga) w w1 := by rw [e1]; exact (Keeps.refl _ _).setCell (fun _ h => h rfl) _
  have K4 : Keeps (fun i => vR.ownBlock ≠ some i) W3 w4 := (Keeps.refl _ W3).grown hg4 (fun i _ h hn => hn h)
  have hvlt : ∀ i, vR.ownBlock = some i → i < w.heap.size := fun i hi => own_lt h.vr hi
  have KB : Keeps (fun i => i ≠ ga ∧ vR.ownBlock ≠ some i) w w4 := (((K1.mono fun i _ h => h.1).trans' (k2.old _)).trans' (k3.old _)).trans' (K4.mono fun i _ h => h.2)
  have KS : Keeps (· ≠ ga) w4 ((w4.setCell ⟨ga, k * 2, none⟩ (.int .u32 ps[k].1)).setCell ⟨ga, k * 2 + 1, none⟩ (XV (ps[k].2, g))) := ((Keeps.refl _ _).setCell (fun _ h => h rfl) _).setCell (fun _ h => h rfl) _
  have K14 : Keeps (fun i => vR.ownBlock ≠ some i) w1 w4 := ((k2.trans' k3).old _).trans' K4
  have hxlt : ga < w1.heap.size := by rw [z1]; exact hx.lt
  have hx1 : RowS w1 48 2 ga NA (xs.set (k * 2) v) := by rw [e1]; exact hx.set _ _
  have hx4 := hx1.keep K14 g2
  have hgnew : ∀ z ∈ q, z.2 ≠ g := fun z hz e => by have := h.rooms.lt z hz; omega
  have hgv : vR.ownBlock ≠ some g := fun e => by have := hvlt g e; omega
  have hgga : g ≠ ga := by omega
  have hr5 := ((hr.keep k3 trivial).keep K4 hgv).keep KS hgga
  have hv4ga : vR2.ownBlock ≠ some ga := fun e => by
    rcases hat4 with h' | h'
    · exact g2 (h' ▸ e)
    · rw [h'] at e; injection e with e; omega
  refine ⟨⟨?_, ?_, ?_, fun i hi => ?_, ⟨_, (hx4.set _ _).set _ _, hX.two hk hp hlen v _⟩, h.ga0⟩, (KB.mono fun i hi h => ⟨h.1, h.2 hi⟩).trans' (KS.mono fun i _ h => h.1)⟩
  · rw [List.map_append, h.qe, ← List.map_take, ← List.map_take, List.take_succ_eq_append_getElem hp, List.map_append]
    rfl
  · refine ((h.rooms.keep KB fun y hy => ⟨g1 y hy, g3 y hy⟩).keep KS g1).push hr5 (by show b0 ≤ g; omega) hgnew
  · rw [List.length_append, List.map_append]
    exact own_keeps h4 KS fun i hi e => hv4ga (by rw [← e]; exact hi)
  · rcases hat4 with h' | h'
    · rw [h'] at hi; exact h.vrn i hi
    · rw [h'] at hi; injection hi with hi; omega
theorem HandS.new {N2 : Nat} (hN : N2 = NA * 2) (hb : b0 ≤ w.heap.size) : HandS b0 w.heap.size NA ps 0 (.slice none 0 0) [] (w.alloc (.cells (madeCells #[.int .u32 0, .slice none 0 0] N2) 48)) := by
  subst hN
  refine ⟨by simp, Rooms.nil _ _, World.ownsRow_nil _ _ _ _, by simp [Value.ownBlock], ⟨_, ⟨_, heap_alloc_new _ _, size_madeCells _ _, ?_, ?_⟩, InX.nil⟩, hb⟩
  · rw [Array.length_toList, size_madeCells]; omega
  · rw [List.take_length]
theorem HandS.less {b2 : Nat} (h : HandS b0 ga NA ps k vR q w) (hb : b2 ≤ b0) : HandS b2 ga NA ps k vR q w := by
  have hg := h.ga0
  exact ⟨h.qe, ⟨h.rooms.row, fun y hy => by have := h.rooms.new y hy; omega, h.rooms.dis⟩, h.vr, fun i hi => by have := h.vrn i hi; omega, h.inn, by omega⟩
/-- The packets read as they are. -/
theorem HandS.pks (h : HandS b0 ga NA ps k vR q w) (hk : ps.length ≤ k) (hN : ps.length ≤ NA) (hl : ps.length ≤ 1000000000000) (hs : ∀ p ∈ ps, p.2.length ≤ 1000000000000) : Pks (fun i => b0 ≤ i ∧ i < w.heap.size) w (some ⟨ga, 0, none⟩) ps := by
  obtain ⟨xs, hr, hX⟩ := h.inn
  have hlen := h.len
  rw [Nat.min_eq_right (by omega)] at hlen
  refine ⟨by omega, fun _ => ⟨ga, 0, rfl, ⟨h.ga0, hr.lt⟩, fun i hi => ?_⟩⟩
  have hiq : i < q.length := by omega
  have e : q[i].1 = ps[i].2 := by
    have h3 : (q.map (·.1))[i]? = ((ps.map (·.2)).take k)[i]? := by rw [h.qe]
    rw [List.getElem?_map, List.getElem?_eq_getElem hiq, List.getElem?_take, if_pos (by omega), List.getElem?_map, List.getElem?_eq_getElem hi] at h3
    exact Option.some.inj h3
  obtain ⟨h0, h1⟩ := hX.2 i (by omega)
  have hxl := hX.1
  refine ⟨some ⟨q[i].2, 0, none⟩, q[i].1.length + 64, ?_, ?_, by rw [← e]; omega, ?_⟩
  · rw [Nat.zero_add, hr.cell (by omega), h0]
    unfold toC
    rw [if_pos (by omega), List.getElem?_eq_getElem hi]
    rfl
  · rw [Nat.zero_add, hr.cell (by omega), h1]
    unfold byC
    rw [List.getElem?_eq_getElem hiq]
    show some (XV q[i]) = _
    unfold XV
    rw [e]
  · have hb := h.rooms.bts (List.getElem_mem hiq) (by rw [e]; exact hs _ (List.getElem_mem hi))
    rw [e] at hb
    exact hb.mono fun j hj e' => by
      have h4 := h.rooms.new _ (List.getElem_mem hiq)
      have e'' : j = q[i].2 := e'
      exact ⟨by omega, hj⟩
theorem HandS.at_ (h : HandS b0 ga NA ps k vR q w) (hk : ps.length ≤ k) (hN : ps.length ≤ NA) {j : Nat} (hj : j < ps.length) (hjq : j < q.length) :
    q[j].1 = ps[j].2 ∧ w.cell? ⟨ga, j * 2, none⟩ = some (.int .u32 ps[j].1) ∧ w.cell? ⟨ga, j * 2 + 1, none⟩ = some (XV q[j]) := by
  obtain ⟨xs, hr, hX⟩ := h.inn
  obtain ⟨h0, h1⟩ := hX.2 j (by omega)
  have hxl := hX.1
  refine ⟨?_, ?_, ?_⟩
  · have h3 : (q.map (·.1))[j]? = ((ps.map (·.2)).take k)[j]? := by rw [h.qe]
    rw [List.getElem?_map, List.getElem?_eq_getElem hjq, List.getElem?_take, if_pos (by omega), List.getElem?_map, List.getElem?_eq_getElem hj] at h3
    exact Option.some.inj h3
  · rw [hr.cell (by omega), h0]
    unfold toC
    rw [if_pos (by omega), List.getElem?_eq_getElem hj]
    rfl
  · rw [hr.cell (by omega), h1]
    unfold byC
    rw [List.getElem?_eq_getElem hjq]
    rfl
end

/-- All that is handed in, an op's block beside, in blocks from b0 up to b1. -/
structure HandZ (b0 b1 go ga NA : Nat) (oc : Array Value) (ps : List Pk) (vR : Value) (q : List (List UInt8 × Nat)) (w : World) : Prop where
  s : HandS b0 ga NA ps NA vR q w
  o : w.heap[go]? = some (.cells oc 36 (0, 0))
  go0 : b0 ≤ go
  go1 : go < b1
  q1 : ∀ y ∈ q, y.2 < b1
  v1 : ∀ i, vR.ownBlock = some i → i < b1
  ga1 : ga < b1

section
variable {b0 b1 go ga NA : Nat} {oc : Array Value} {ps : List Pk} {vR : Value} {q : List (List UInt8 × Nat)} {w w' : World}
theorem HandZ.keep (h : HandZ b0 b1 go ga NA oc ps vR q w) (hk : Keeps (fun i => b0 ≤ i ∧ i < b1) w w') : HandZ b0 b1 go ga NA oc ps vR q w' :=
  ⟨h.s.keep hk (fun y hy => ⟨h.s.rooms.new y hy, h.q1 y hy⟩) (fun i hi => ⟨h.s.vrn i hi, h.v1 i hi⟩) ⟨h.s.ga0, h.ga1⟩, hk.heap h.o ⟨h.go0, h.go1⟩, h.go0, h.go1, h.q1, h.v1, h.ga1⟩
theorem HandZ.gone (h : HandZ b0 b1 go ga NA oc ps vR q w) : (∀ y ∈ q, y.2 ≠ go) ∧ go ≠ ga := by
  refine ⟨fun y hy e => ?_, fun e => ?_⟩
  · obtain ⟨cu, hc, _⟩ := h.s.rooms.row y hy
    rw [e, h.o] at hc
    injection hc with hc
    injection hc with _ hc _
    exact absurd hc (by decide)
  · obtain ⟨xs, ⟨cur, hg, _⟩, _⟩ := h.s.inn
    rw [← e, h.o] at hg
    injection hg with hg
    injection hg with _ hg _
    exact absurd hg (by decide)
end
end Go.Proofs.Ytgnndggbjipioaa
