/- Packets in flight: the words for a net of package under and of weftref18, the reading of a list of packets, and the plain functions that say what each method answers. -/
import Derived.Test.YtgnndggbjipioaaProg
import Derived.Test.YtgnndggbjipioaaABase
namespace Go.Proofs.Ytgnndggbjipioaa
open Go.RowKit

theorem info5 : (Try.prog.info? 5).map (fun i => (i.zero, i.size, i.bytes)) = some (some (.int .u8 0), 1, 1) := by kernel_rfl
theorem info48 : (Try.prog.info? 48).map (fun i => (i.zero, i.size, i.bytes)) = some (some (.agg #[(.int .u32 0), (.slice none 0 0)]), 2, 32) := by kernel_rfl

/-- A packet: where to, its bytes. -/
abbrev Pk := Int × List UInt8

/-- What each method does to the packets in flight, and what it answers. -/
def putS (lim : Nat) : List Pk → List Pk → Nat × Int × List Pk
  | ps, [] => (0, 0, ps)
  | ps, s :: ss => if 65535 < s.2.length then (0, 2, ps) else if lim ≤ ps.length then (0, 4, ps) else
      ((putS lim (ps ++ [s]) ss).1 + 1, (putS lim (ps ++ [s]) ss).2.1, (putS lim (ps ++ [s]) ss).2.2)

theorem putS_le (lim : Nat) (ss : List Pk) : ∀ ps, (putS lim ps ss).1 ≤ ss.length := by
  induction ss with
  | nil => intro ps; simp [putS]
  | cons s ss ih =>
    intro ps
    unfold putS
    split
    · simp
    · split
      · simp
      · have := ih (ps ++ [s]); simp; omega

/-- The slice at A reads as packets, in blocks that S lets. -/
def Pks (S : Nat → Prop) (w : World) (A : Option Addr) (ps : List Pk) : Prop :=
  ps.length ≤ 281474976710656 ∧ (ps ≠ [] → ∃ b o, A = some ⟨b, o, none⟩ ∧ S b ∧ ∀ i (h : i < ps.length), ∃ A' c', w.cell? ⟨b, o + i * 2, none⟩ = some (.int .u32 ps[i].1) ∧
    w.cell? ⟨b, o + i * 2 + 1, none⟩ = some (.slice A' ps[i].2.length c') ∧ ps[i].2.length ≤ c' ∧ Bts S w A' ps[i].2)

section
variable {S T : Nat → Prop} {w w' : World} {A : Option Addr} {ps : List Pk}
theorem Pks.nil (S : Nat → Prop) (w : World) (A : Option Addr) : Pks S w A [] := ⟨by simp, fun h => absurd rfl h⟩
theorem Pks.mono (h : Pks S w A ps) (hT : ∀ k, k < w.heap.size → S k → T k) : Pks T w A ps :=
  ⟨h.1, fun hn => by
    obtain ⟨b, o, e, hs, hc⟩ := h.2 hn
    obtain ⟨A', c', h0, _⟩ := hc 0 (List.length_pos_iff.2 hn)
    refine ⟨b, o, e, hT b (lt_of_cell h0) hs, fun i hi => ?_⟩
    obtain ⟨A', c', h0, h1, h2, h3⟩ := hc i hi
    exact ⟨A', c', h0, h1, h2, h3.mono hT⟩⟩
theorem Pks.keep (h : Pks S w A ps) (hk : Keeps S w w') : Pks S w' A ps :=
  ⟨h.1, fun hn => by
    obtain ⟨b, o, e, hs, hc⟩ := h.2 hn
    refine ⟨b, o, e, hs, fun i hi => ?_⟩
    obtain ⟨A', c', h0, h1, h2, h3⟩ := hc i hi
    exact ⟨A', c', (hk.cell (lt_of_cell h0) hs).trans h0, (hk.cell (lt_of_cell h1) hs).trans h1, h2, h3.keep hk⟩⟩
theorem Pks.keep' (h : Pks S w A ps) (hk : Keeps T w w') (hT : ∀ k, k < w.heap.size → S k → T k) : Pks S w' A ps := h.keep (hk.mono hT)
theorem Pks.at_ (h : Pks S w A ps) {i : Nat} (hi : i < ps.length) : ∃ b o A' c', A = some ⟨b, o, none⟩ ∧ S b ∧ w.cell? ⟨b, o + i * 2, none⟩ = some (.int .u32 ps[i].1) ∧
    w.cell? ⟨b, o + i * 2 + 1, none⟩ = some (.slice A' ps[i].2.length c') ∧ ps[i].2.length ≤ c' ∧ Bts S w A' ps[i].2 := by
  obtain ⟨b, o, e, hs, hc⟩ := h.2 (by rintro rfl; simp at hi)
  obtain ⟨A', c', h0, h1, h2, h3⟩ := hc i hi
  exact ⟨b, o, A', c', e, hs, h0, h1, h2, h3⟩
end

/-- The cells of packets in flight: q: each with the value of its bytes. -/
def row2 (q : List (Pk × Value)) : List Value := q.flatMap fun x => [.int .u32 x.1.1, x.2]

theorem row2_length (q : List (Pk × Value)) : (row2 q).length = q.length * 2 := by
  induction q with
  | nil => rfl
  | cons x q ih => simp only [row2, List.flatMap_cons, List.length_append, List.length_cons, List.length_nil] at ih ⊢; omega
theorem row2_append (q r : List (Pk × Value)) : row2 (q ++ r) = row2 q ++ row2 r := by simp [row2]
theorem row2_cons (x : Pk × Value) (q : List (Pk × Value)) : row2 (x :: q) = .int .u32 x.1.1 :: x.2 :: row2 q := rfl
theorem row2_take (q : List (Pk × Value)) (i : Nat) : (row2 q).take (i * 2) = row2 (q.take i) := by
  induction q generalizing i with
  | nil => simp [row2]
  | cons x q ih =>
    cases i with
    | zero => simp [row2]
    | succ i => rw [row2_cons, show (i + 1) * 2 = i * 2 + 1 + 1 by omega]; simp [ih, row2_cons]
theorem row2_drop (q : List (Pk × Value)) (i : Nat) : (row2 q).drop (i * 2) = row2 (q.drop i) := by
  induction q generalizing i with
  | nil => simp [row2]
  | cons x q ih =>
    cases i with
    | zero => simp
    | succ i => rw [row2_cons, show (i + 1) * 2 = i * 2 + 1 + 1 by omega]; simp [ih]
theorem row2_get0 (q : List (Pk × Value)) (i : Nat) (h : i < q.length) : (row2 q)[i * 2]? = some (.int .u32 q[i].1.1) := by
  have e := row2_drop q i
  rw [List.drop_eq_getElem_cons h, row2_cons] at e
  have := congrArg (fun l => l[0]?) e
  simpa using this
theorem row2_get1 (q : List (Pk × Value)) (i : Nat) (h : i < q.length) : (row2 q)[i * 2 + 1]? = some q[i].2 := by
  have e := row2_drop q i
  rw [List.drop_eq_getElem_cons h, row2_cons] at e
  have := congrArg (fun l => l[1]?) e
  simpa using this
theorem row2_one (q : List (Pk × Value)) (hq : ∀ x ∈ q, x.2.oneCell' = true) : ∀ u ∈ row2 q, u.oneCell' = true := by
  intro u hu
  obtain ⟨x, hx, hu⟩ := List.mem_flatMap.1 hu
  simp at hu
  rcases hu with rfl | rfl
  · rfl
  · exact hq x hx

/-- The list L of packets in flight, its blocks F's, no two in one. -/
structure Flight (F : Nat → Prop) (w : World) (L : Value) (q : List (Pk × Value)) : Prop where
  row : w.ownsRow 0 48 2 L q.length (row2 q)
  own : ∀ x ∈ q, OwnB F w x.2 x.1.2
  apart : q.Pairwise fun x y => ∀ k, x.2.ownBlock = some k → y.2.ownBlock ≠ some k
  foot : ∀ k, L.ownBlock = some k → F k

section
variable {F G : Nat → Prop} {w w' : World} {L : Value} {q : List (Pk × Value)}
theorem Flight.keep (h : Flight F w L q) (hk : Keeps F w w') : Flight F w' L q :=
  ⟨own_keeps h.row hk h.foot, fun x hx => (h.own x hx).keep hk, h.apart, h.foot⟩
theorem Flight.mono (h : Flight F w L q) (hG : ∀ k, k < w.heap.size → F k → G k) : Flight G w L q :=
  ⟨h.row, fun x hx => (h.own x hx).mono hG, h.apart, fun k hk => hG k (own_lt h.row hk) (h.foot k hk)⟩
theorem Flight.at_ (h : Flight F w L q) {i : Nat} (hi : i < q.length) : ∃ b c A' c', L = .slice (some ⟨b, 0, none⟩) q.length c ∧ q.length ≤ c ∧ c ≤ maxLen ∧ F b ∧ q[i].2 = .slice A' q[i].1.2.length c' ∧
    w.cell? ⟨b, i * 2, none⟩ = some (.int .u32 q[i].1.1) ∧ w.cell? ⟨b, i * 2 + 1, none⟩ = some (.slice A' q[i].1.2.length c') ∧ q[i].1.2.length ≤ c' ∧ Bts F w A' q[i].1.2 := by
  obtain ⟨A', c', he, hc', hcm'⟩ := (h.own q[i] (List.getElem_mem hi)).slice
  have hb : Bts F w A' q[i].1.2 := by have := h.own q[i] (List.getElem_mem hi); rw [he] at this; exact this.bts
  rcases h.row.2 with ⟨_, h0⟩ | ⟨g, cap, cur, hv, hb0, hg, hnc, hcm, hcs, ht⟩
  · omega
  subst hv
  have hcell : ∀ j, j < q.length * 2 → w.cell? ⟨g, j, none⟩ = (row2 q)[j]? := fun j hj => by
    rw [cell_of_heap hg, ← ht, List.getElem?_take, if_pos hj]; simp
  refine ⟨g, cap, A', c', rfl, hnc, hcm, h.foot g rfl, he, ?_, ?_, hc', hb⟩
  · rw [hcell _ (by omega), row2_get0 q i hi]
  · rw [hcell _ (by omega), row2_get1 q i hi, he]
end

/-- The packets of a net of package under at block g. -/
structure UNet (F : Nat → Prop) (w : World) (g : Nat) (lim : Nat) (L : Value) (q : List (Pk × Value)) : Prop where
  head : w.heap[g]? = some (.cells #[.int .i64 (lim : Int), L] 72 (0, 0))
  flight : Flight F w L q
  fg : F g
  lt : ∀ k, F k → k < w.heap.size
  most : lim ≤ 4096
  room : q.length ≤ lim
  len : ∀ x ∈ q, x.1.2.length ≤ 65535

/-- The packets of a net of weftref18 at block g. -/
structure RNet (F : Nat → Prop) (w : World) (g : Nat) (lim : Nat) (L : Value) (q : List (Pk × Value)) : Prop where
  head : w.heap[g]? = some (.cells #[L, .int .i64 (lim : Int)] 77 (0, 0))
  flight : Flight F w L q
  fg : F g
  lt : ∀ k, F k → k < w.heap.size
  most : lim ≤ 4096
  room : q.length ≤ lim
  len : ∀ x ∈ q, x.1.2.length ≤ 65535

section
variable {F G : Nat → Prop} {w w' : World} {L : Value} {q : List (Pk × Value)} {g lim : Nat}
theorem UNet.keep (h : UNet F w g lim L q) (hk : Keeps F w w') : UNet F w' g lim L q :=
  ⟨hk.heap h.head h.fg, h.flight.keep hk, h.fg, fun k hk' => Nat.lt_of_lt_of_le (h.lt k hk') hk.size, h.most, h.room, h.len⟩
theorem RNet.keep (h : RNet F w g lim L q) (hk : Keeps F w w') : RNet F w' g lim L q :=
  ⟨hk.heap h.head h.fg, h.flight.keep hk, h.fg, fun k hk' => Nat.lt_of_lt_of_le (h.lt k hk') hk.size, h.most, h.room, h.len⟩
theorem UNet.cell0 (h : UNet F w g lim L q) : w.cell? ⟨g, 0, none⟩ = some (.int .i64 (lim : Int)) := cell_of_heap h.head
theorem UNet.cell1 (h : UNet F w g lim L q) : w.cell? ⟨g, 1, none⟩ = some L := cell_of_heap h.head
theorem UNet.frozen (h : UNet F w g lim L q) (i : Nat) : w.frozen? ⟨g, i, none⟩ = false := frozen_of_heap h.head
theorem RNet.cell0 (h : RNet F w g lim L q) : w.cell? ⟨g, 0, none⟩ = some L := cell_of_heap h.head
theorem RNet.cell1 (h : RNet F w g lim L q) : w.cell? ⟨g, 1, none⟩ = some (.int .i64 (lim : Int)) := cell_of_heap h.head
theorem RNet.frozen (h : RNet F w g lim L q) (i : Nat) : w.frozen? ⟨g, i, none⟩ = false := frozen_of_heap h.head
end
end Go.Proofs.Ytgnndggbjipioaa
namespace Go.Proofs.Ytgnndggbjipioaa
open Go.RowKit
section
variable {F G S : Nat → Prop} {w w' w1 w3 : World} {v L L2 : Value} {bs : List UInt8} {q : List (Pk × Value)} {g lim : Nat}
theorem OwnB.keepS (h : OwnB F w v bs) (hk : Keeps S w w') (hS : ∀ k, v.ownBlock = some k → S k) : OwnB F w' v bs := ⟨own_keeps h.row hk hS, h.foot, h.len⟩

/-- A packet more at the list's end. -/
theorem flight_push {p : Pk} {cs : Array Value} {ty : Nat} (hF : Flight F w1 L q) (hov : OwnB G w1 v p.2) (hG : ∀ k, F k → ¬ G k)
    (hg : w1.heap[g]? = some (.cells cs ty (0, 0))) (hty : ty ≠ 5) (K : Keeps (fun k => k ≠ g ∧ L.ownBlock ≠ some k) w1 w3)
    (hown : w3.ownsRow 0 48 2 L2 (q.length + 1) (row2 q ++ [.int .u32 p.1, v])) :
    Flight (fun k => F k ∨ (G k ∧ k < w1.heap.size) ∨ L2.ownBlock = some k) w3 L2 (q ++ [(p, v)]) := by
  have hb : ∀ {x : Value} {n : Nat} {xs : List Value}, w1.ownsRow 0 5 1 x n xs → ∀ k, x.ownBlock = some k → k ≠ g ∧ L.ownBlock ≠ some k := fun hx k hk =>
    ⟨fun e => own_ne_heap hx hg (Ne.symm hty) (by rw [hk, e]), own_ne hx hF.row (by decide) hk⟩
  refine ⟨?_, ?_, ?_, fun k hk => .inr (.inr hk)⟩
  · have e : row2 (q ++ [(p, v)]) = row2 q ++ [.int .u32 p.1, v] := by rw [row2_append]; rfl
    rw [e, List.length_append]; exact hown
  · intro x hx
    rcases List.mem_append.1 hx with hx | hx
    · exact ((hF.own x hx).keepS K (hb (hF.own x hx).row)).mono fun k _ h => .inl h
    · obtain rfl : x = (p, v) := by simpa using hx
      exact ⟨own_keeps hov.row K (hb hov.row), fun k hk => .inr (.inl ⟨hov.foot k hk, own_lt hov.row hk⟩), hov.len⟩
  · rw [List.pairwise_append]
    refine ⟨hF.apart, by simp, fun x hx y hy k hk hk' => ?_⟩
    obtain rfl : y = (p, v) := by simpa using hy
    exact hG k ((hF.own x hx).foot k hk) (hov.foot k hk')

theorem unet_push {p : Pk} (hN : UNet F w1 g lim L q) (hov : OwnB G w1 v p.2) (hG : ∀ k, F k → ¬ G k) (hlen : p.2.length ≤ 65535) (hroom : q.length < lim)
    (K : Keeps (fun k => L.ownBlock ≠ some k) w1 w') (hown : w'.ownsRow 0 48 2 L2 (q.length + 1) (row2 q ++ [.int .u32 p.1, v])) :
    UNet (fun k => F k ∨ (G k ∧ k < w1.heap.size) ∨ L2.ownBlock = some k) (w'.setCell ⟨g, 1, none⟩ L2) g lim L2 (q ++ [(p, v)]) := by
  have hh := K.heap hN.head (own_ne_heap hN.flight.row hN.head (by decide))
  have K3 : Keeps (fun k => k ≠ g ∧ L.ownBlock ≠ some k) w1 (w'.setCell ⟨g, 1, none⟩ L2) := (K.mono fun _ _ h => h.2).setCell (fun _ h => h.1 rfl) _
  have ho : (w'.setCell ⟨g, 1, none⟩ L2).ownsRow 0 48 2 L2 (q.length + 1) (row2 q ++ [.int .u32 p.1, v]) :=
    own_keeps hown ((Keeps.refl (· ≠ g) w').setCell (fun _ h => h rfl) _) fun k hk e => own_ne_heap hown hh (by decide) (e ▸ hk)
  refine ⟨by rw [heap_setCell hh]; rfl, flight_push hN.flight hov hG hN.head (by decide) K3 ho, .inl hN.fg, ?_, hN.most, by simp; omega, ?_⟩
  · intro k hk
    rcases hk with hk | hk | hk
    · exact Nat.lt_of_lt_of_le (hN.lt k hk) K3.size
    · exact Nat.lt_of_lt_of_le hk.2 K3.size
    · exact own_lt ho hk
  · intro x hx
    rcases List.mem_append.1 hx with hx | hx
    · exact hN.len x hx
    · obtain rfl : x = (p, v) := by simpa using hx
      exact hlen

theorem rnet_push {p : Pk} (hN : RNet F w1 g lim L q) (hov : OwnB G w1 v p.2) (hG : ∀ k, F k → ¬ G k) (hlen : p.2.length ≤ 65535) (hroom : q.length < lim)
    (K : Keeps (fun k => L.ownBlock ≠ some k) w1 w') (hown : w'.ownsRow 0 48 2 L2 (q.length + 1) (row2 q ++ [.int .u32 p.1, v])) :
    RNet (fun k => F k ∨ (G k ∧ k < w1.heap.size) ∨ L2.ownBlock = some k) (w'.setCell ⟨g, 0, none⟩ L2) g lim L2 (q ++ [(p, v)]) := by
  have hh := K.heap hN.head (own_ne_heap hN.flight.row hN.head (by decide))
  have K3 : Keeps (fun k => k ≠ g ∧ L.ownBlock ≠ some k) w1 (w'.setCell ⟨g, 0, none⟩ L2) := (K.mono fun _ _ h => h.2).setCell (fun _ h => h.1 rfl) _
  have ho : (w'.setCell ⟨g, 0, none⟩ L2).ownsRow 0 48 2 L2 (q.length + 1) (row2 q ++ [.int .u32 p.1, v]) :=
    own_keeps hown ((Keeps.refl (· ≠ g) w').setCell (fun _ h => h rfl) _) fun k hk e => own_ne_heap hown hh (by decide) (e ▸ hk)
  refine ⟨by rw [heap_setCell hh]; rfl, flight_push hN.flight hov hG hN.head (by decide) K3 ho, .inl hN.fg, ?_, hN.most, by simp; omega, ?_⟩
  · intro k hk
    rcases hk with hk | hk | hk
    · exact Nat.lt_of_lt_of_le (hN.lt k hk) K3.size
    · exact Nat.lt_of_lt_of_le hk.2 K3.size
    · exact own_lt ho hk
  · intro x hx
    rcases List.mem_append.1 hx with hx | hx
    · exact hN.len x hx
    · obtain rfl : x = (p, v) := by simpa using hx
      exact hlen
end
end Go.Proofs.Ytgnndggbjipioaa
