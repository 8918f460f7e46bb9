/- Lists of records and of writes in memory: what they read as, whose blocks they are. Plain theorems; no conditions beyond those written. -/
import Derived.Test.YtdpaaoeipconcaaDoorProg
import Derived.Test.YtdpaaoeipconcaaDoorJPure
namespace Go.Proofs.YtdpaaoeipconcaaDoor
open Go.RowKit

theorem Bts.mono' {S T : Nat → Prop} {w : World} {A : Option Addr} {bs : List UInt8} (h : Bts S w A bs) (hT : ∀ k, S k → T k) : Bts T w A bs := h.mono fun k _ => hT k

/-- The slice at A reads as records, in blocks that S lets. -/
def Rcs (S : Nat → Prop) (w : World) (A : Option Addr) (rs : List (List UInt8)) : Prop :=
  rs.length ≤ 281474976710656 ∧ (rs ≠ [] → ∃ b o, A = some ⟨b, o, none⟩ ∧ S b ∧ ∀ i (h : i < rs.length), ∃ A' c', w.cell? ⟨b, o + i, none⟩ = some (.slice A' rs[i].length c') ∧ rs[i].length ≤ c' ∧ Bts S w A' rs[i])

section
variable {S T : Nat → Prop} {w w' : World} {A : Option Addr} {rs : List (List UInt8)}
theorem Rcs.nil (S : Nat → Prop) (w : World) (A : Option Addr) : Rcs S w A [] := ⟨by simp, fun h => absurd rfl h⟩
theorem Rcs.mono (h : Rcs S w A rs) (hT : ∀ k, k < w.heap.size → S k → T k) : Rcs T w A rs :=
  ⟨h.1, fun hn => by
    obtain ⟨b, o, e, hs, hc⟩ := h.2 hn
    obtain ⟨A', c', h0, _⟩ := hc 0 (List.length_pos_iff.2 hn)
    refine ⟨b, o, e, hT b (lt_of_cell h0) hs, fun i hi => ?_⟩
    obtain ⟨A', c', h0, h2, h3⟩ := hc i hi
    exact ⟨A', c', h0, h2, h3.mono hT⟩⟩
theorem Rcs.keep (h : Rcs S w A rs) (hk : Keeps S w w') : Rcs S w' A rs :=
  ⟨h.1, fun hn => by
    obtain ⟨b, o, e, hs, hc⟩ := h.2 hn
    refine ⟨b, o, e, hs, fun i hi => ?_⟩
    obtain ⟨A', c', h0, h2, h3⟩ := hc i hi
    exact ⟨A', c', (hk.cell (lt_of_cell h0) hs).trans h0, h2, h3.keep hk⟩⟩
theorem Rcs.at_ (h : Rcs S w A rs) {i : Nat} (hi : i < rs.length) : ∃ b o A' c', A = some ⟨b, o, none⟩ ∧ S b ∧ w.cell? ⟨b, o + i, none⟩ = some (.slice A' rs[i].length c') ∧ rs[i].length ≤ c' ∧ Bts S w A' rs[i] := by
  obtain ⟨b, o, e, hs, hc⟩ := h.2 (by rintro rfl; simp at hi)
  obtain ⟨A', c', h0, h2, h3⟩ := hc i hi
  exact ⟨b, o, A', c', e, hs, h0, h2, h3⟩
end

/-- A value that reads as bytes. -/
def VB (F : Nat → Prop) (w : World) (v : Value) (bs : List UInt8) : Prop := ∃ A c, v = .slice A bs.length c ∧ bs.length ≤ c ∧ Bts F w A bs
section
variable {F G : Nat → Prop} {w w' : World} {v : Value} {bs : List UInt8}
theorem VB.keep (h : VB F w v bs) (hk : Keeps F w w') : VB F w' v bs := by
  obtain ⟨A, c, e, hc, hb⟩ := h
  exact ⟨A, c, e, hc, hb.keep hk⟩
theorem VB.mono (h : VB F w v bs) (hG : ∀ k, k < w.heap.size → F k → G k) : VB G w v bs := by
  obtain ⟨A, c, e, hc, hb⟩ := h
  exact ⟨A, c, e, hc, hb.mono hG⟩
theorem VB.one (h : VB F w v bs) : v.oneCell' = true := by
  obtain ⟨A, c, rfl, _⟩ := h
  rfl
theorem OwnB.vb (h : OwnB F w v bs) : VB F w v bs := by
  obtain ⟨A, c, rfl, hc, _⟩ := h.slice
  exact ⟨A, c, rfl, hc, h.bts⟩
end

/-- A list of records of the call's own: the row and the bytes in F's blocks. -/
structure OwnR (F : Nat → Prop) (w : World) (L : Value) (q : List (List UInt8 × Value)) : Prop where
  row : w.ownsRow 0 22 1 L q.length (q.map (·.2))
  own : ∀ x ∈ q, OwnB F w x.2 x.1
  foot : ∀ k, L.ownBlock = some k → F k
  dis : q.Pairwise fun x y => ∀ k, x.2.ownBlock = some k → y.2.ownBlock ≠ some k

section
variable {F G : Nat → Prop} {w w' : World} {L : Value} {q : List (List UInt8 × Value)}
theorem OwnR.keep (h : OwnR F w L q) (hk : Keeps F w w') : OwnR F w' L q := ⟨own_keeps h.row hk h.foot, fun x hx => (h.own x hx).keep hk, h.foot, h.dis⟩
theorem OwnR.mono (h : OwnR F w L q) (hG : ∀ k, k < w.heap.size → F k → G k) : OwnR G w L q := ⟨h.row, fun x hx => (h.own x hx).mono hG, fun k hk => hG k (own_lt h.row hk) (h.foot k hk), h.dis⟩
theorem OwnR.nil (F : Nat → Prop) (w : World) : OwnR F w (.slice none 0 0) [] := ⟨World.ownsRow_nil _ _ _ _, by simp, by simp [Value.ownBlock], List.Pairwise.nil⟩
theorem OwnR.rcs (h : OwnR F w L q) (hq : q.length ≤ 281474976710656) : ∃ A c, L = .slice A q.length c ∧ q.length ≤ c ∧ Rcs F w A (q.map (·.1)) := by
  obtain ⟨A, c, rfl, hc, _⟩ := own_slice h.row
  refine ⟨A, c, rfl, hc, by simpa using hq, fun hn => ?_⟩
  rcases h.row.2 with ⟨_, h0⟩ | ⟨g, cap, cur, hv, hb0, hg, hnc, hcm, hcs, ht⟩
  · exact absurd (by simpa using h0) hn
  injection hv with hA _ _
  refine ⟨g, 0, hA, h.foot g (by rw [hA]; rfl), fun i hi => ?_⟩
  have hi' : i < q.length := by simpa using hi
  obtain ⟨A', c', e, h1, h2⟩ := (h.own q[i] (List.getElem_mem hi')).vb
  refine ⟨A', c', ?_, by simpa using h1, by simpa using h2⟩
  have hcell : (cur.toList.take (q.length * 1))[i]? = (q.map (·.2))[i]? := by rw [ht]
  rw [Nat.zero_add, cell_of_heap hg]
  rw [List.getElem?_take, if_pos (by omega)] at hcell
  simp only [Array.getElem?_toList] at hcell
  rw [hcell]
  simp [hi', e]
end

section
variable {F G : Nat → Prop} {w w' : World} {L L2 : Value} {q : List (List UInt8 × Value)}
/-- A record more. -/
theorem OwnR.push {x : List UInt8 × Value} (h : OwnR F w L q) (hK : Keeps (fun k => L.ownBlock ≠ some k) w w') (hv : OwnB G w x.2 x.1) (hown : w'.ownsRow 0 22 1 L2 (q.length + 1) (q.map (·.2) ++ [x.2])) (hd : ∀ y ∈ q, ∀ k, y.2.ownBlock = some k → x.2.ownBlock ≠ some k) :
    OwnR (fun k => F k ∨ G k ∨ L2.ownBlock = some k) w' L2 (q ++ [x]) := by
  have ne : ∀ {v : Value} {n : Nat} {xs : List Value}, w.ownsRow 0 5 1 v n xs → ∀ k, v.ownBlock = some k → L.ownBlock ≠ some k := fun hx k hk => own_ne hx h.row (by decide) hk
  refine ⟨by rw [List.map_append, List.length_append]; exact hown, fun y hy => ?_, fun k hk => .inr (.inr hk), List.pairwise_append.2 ⟨h.dis, List.pairwise_singleton _ _, fun y hy z hz => by
    obtain rfl : z = x := by simpa using hz
    exact hd y hy⟩⟩
  rcases List.mem_append.1 hy with hy | hy
  · have ho := h.own y hy
    exact ⟨own_keeps ho.row hK (ne ho.row), fun k hk => .inl (ho.foot k hk), ho.len⟩
  · obtain rfl : y = x := by simpa using hy
    exact ⟨own_keeps hv.row hK (ne hv.row), fun k hk => .inr (.inl (hv.foot k hk)), hv.len⟩
end

/-- The cells of a list of writes: q: each with the value of its bytes. -/
def row3 (q : List (Wr × Value)) : List Value := q.flatMap fun x => [.int .i64 (x.1.area : Int), .int .i64 (x.1.at_ : Int), x.2]

theorem row3_length (q : List (Wr × Value)) : (row3 q).length = q.length * 3 := by
  induction q with
  | nil => rfl
  | cons x q ih => simp only [row3, List.flatMap_cons, List.length_append, List.length_cons, List.length_nil] at ih ⊢; omega
theorem row3_append (q r : List (Wr × Value)) : row3 (q ++ r) = row3 q ++ row3 r := by simp [row3]
theorem row3_cons (x : Wr × Value) (q : List (Wr × Value)) : row3 (x :: q) = .int .i64 (x.1.area : Int) :: .int .i64 (x.1.at_ : Int) :: x.2 :: row3 q := rfl
theorem row3_drop (q : List (Wr × Value)) (i : Nat) : (row3 q).drop (i * 3) = row3 (q.drop i) := by
  induction q generalizing i with
  | nil => simp [row3]
  | cons x q ih =>
    cases i with
    | zero => simp
    | succ i => rw [row3_cons, show (i + 1) * 3 = i * 3 + 1 + 1 + 1 by omega]; simp [ih]
theorem row3_get (q : List (Wr × Value)) (i : Nat) (h : i < q.length) : (row3 q)[i * 3]? = some (.int .i64 (q[i].1.area : Int)) ∧ (row3 q)[i * 3 + 1]? = some (.int .i64 (q[i].1.at_ : Int)) ∧ (row3 q)[i * 3 + 2]? = some q[i].2 := by
  have e := row3_drop q i
  rw [List.drop_eq_getElem_cons h, row3_cons] at e
  refine ⟨?_, ?_, ?_⟩
  · have := congrArg (fun l => l[0]?) e; simpa using this
  · have := congrArg (fun l => l[1]?) e; simpa using this
  · have := congrArg (fun l => l[2]?) e; simpa using this
theorem row3_one (q : List (Wr × Value)) (hq : ∀ x ∈ q, x.2.oneCell' = true) : ∀ u ∈ row3 q, u.oneCell' = true := by
  intro u hu
  obtain ⟨x, hx, hu⟩ := List.mem_flatMap.1 hu
  simp at hu
  rcases hu with rfl | rfl | rfl
  · rfl
  · rfl
  · exact hq x hx

/-- A list of writes (rows of type T): its row and its bytes in F's blocks. -/
structure Pend (T : Nat) (F : Nat → Prop) (w : World) (L : Value) (q : List (Wr × Value)) : Prop where
  row : w.ownsRow 0 T 3 L q.length (row3 q)
  own : ∀ x ∈ q, OwnB F w x.2 x.1.bytes
  foot : ∀ k, L.ownBlock = some k → F k

section
variable {T : Nat} {F G : Nat → Prop} {w w' : World} {L : Value} {q : List (Wr × Value)}
theorem Pend.keep (h : Pend T F w L q) (hk : Keeps F w w') : Pend T F w' L q := ⟨own_keeps h.row hk h.foot, fun x hx => (h.own x hx).keep hk, h.foot⟩
theorem Pend.mono (h : Pend T F w L q) (hG : ∀ k, k < w.heap.size → F k → G k) : Pend T G w L q := ⟨h.row, fun x hx => (h.own x hx).mono hG, fun k hk => hG k (own_lt h.row hk) (h.foot k hk)⟩
theorem Pend.nil (F : Nat → Prop) (w : World) : Pend T F w (.slice none 0 0) [] := ⟨World.ownsRow_nil _ _ _ _, by simp, by simp [Value.ownBlock]⟩
theorem Pend.at_ (h : Pend T F w L q) {i : Nat} (hi : i < q.length) : ∃ b c A' c', L = .slice (some ⟨b, 0, none⟩) q.length c ∧ q.length ≤ c ∧ c ≤ maxLen ∧ F b ∧ q[i].2 = .slice A' q[i].1.bytes.length c' ∧
    w.cell? ⟨b, i * 3, none⟩ = some (.int .i64 (q[i].1.area : Int)) ∧ w.cell? ⟨b, i * 3 + 1, none⟩ = some (.int .i64 (q[i].1.at_ : Int)) ∧ w.cell? ⟨b, i * 3 + 2, none⟩ = some (.slice A' q[i].1.bytes.length c') ∧
    q[i].1.bytes.length ≤ c' ∧ Bts F w A' q[i].1.bytes := by
  obtain ⟨A', c', he, hc', hb⟩ := (h.own q[i] (List.getElem_mem hi)).vb
  rcases h.row.2 with ⟨_, h0⟩ | ⟨g, cap, cur, hv, hb0, hg, hnc, hcm, hcs, ht⟩
  · omega
  subst hv
  have hcell : ∀ j, j < q.length * 3 → w.cell? ⟨g, j, none⟩ = (row3 q)[j]? := fun j hj => by
    rw [cell_of_heap hg, ← ht, List.getElem?_take, if_pos hj]; simp
  obtain ⟨r0, r1, r2⟩ := row3_get q i hi
  refine ⟨g, cap, A', c', rfl, hnc, hcm, h.foot g rfl, he, ?_, ?_, ?_, hc', hb⟩
  · rw [hcell _ (by omega), r0]
  · rw [hcell _ (by omega), r1]
  · rw [hcell _ (by omega), r2, he]
/-- A write more. -/
theorem Pend.push {L2 : Value} {x : Wr × Value} (h : Pend T F w L q) (hT : T ≠ 5) (hK : Keeps (fun k => L.ownBlock ≠ some k) w w') (hv : OwnB G w x.2 x.1.bytes) (hown : w'.ownsRow 0 T 3 L2 (q.length + 1) (row3 q ++ row3 [x])) :
    Pend T (fun k => F k ∨ G k ∨ L2.ownBlock = some k) w' L2 (q ++ [x]) := by
  have ne : ∀ {v : Value} {n : Nat} {xs : List Value}, w.ownsRow 0 5 1 v n xs → ∀ k, v.ownBlock = some k → L.ownBlock ≠ some k := fun hx k hk => own_ne hx h.row (Ne.symm hT) hk
  refine ⟨by rw [row3_append, List.length_append]; exact hown, fun y hy => ?_, fun k hk => .inr (.inr hk)⟩
  rcases List.mem_append.1 hy with hy | hy
  · have ho := h.own y hy
    exact ⟨own_keeps ho.row hK (ne ho.row), fun k hk => .inl (ho.foot k hk), ho.len⟩
  · obtain rfl : y = x := by simpa using hy
    exact ⟨own_keeps hv.row hK (ne hv.row), fun k hk => .inr (.inl (hv.foot k hk)), hv.len⟩
end
end Go.Proofs.YtdpaaoeipconcaaDoor
