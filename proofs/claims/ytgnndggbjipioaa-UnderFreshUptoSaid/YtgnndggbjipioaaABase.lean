/- Words and laws over worlds for the proofs of this seat: which blocks a call keeps, slices that read as lists, rows of the call's own, copy and append as run equations. Plain theorems; no conditions beyond those written. -/
import Derived.WalkKit
import Derived.WalkSpells
import Derived.WalkLawsBesides
import Derived.Laws.CopyOwn
import Derived.Maps.AppendAt
import Derived.Deep.AppendLies
import Derived.Deep.RegionHeld3
import Derived.Deep.LoopGhost
import Derived.Deep.DeepCutAuto
import Derived.Deep.CutBlock
import Derived.Deep.QuietTactic
import Derived.BigQuiet
import Derived.StillTailTactics
import Derived.Deep.DrawnRows
namespace Go.Proofs.Ytgnndggbjipioaa
open Go.RowKit

theorem hid {p : Prop} (h : p) : Hid p := h

/-- Blocks of w in S are in w' as they were; none is gone; the streams are as they were. -/
structure Keeps (S : Nat → Prop) (w w' : World) : Prop where
  os : w'.os = w.os
  tape : w'.tape = w.tape
  output : w'.output = w.output
  size : w.heap.size ≤ w'.heap.size
  block : ∀ k, k < w.heap.size → S k → w'.heap[k]? = w.heap[k]?

/-- All that was there is as it was. -/
abbrev Old (w w' : World) : Prop := Keeps (fun _ => True) w w'

section
variable {S T : Nat → Prop} {w w' w'' : World}

theorem Keeps.refl (S : Nat → Prop) (w : World) : Keeps S w w := ⟨rfl, rfl, rfl, Nat.le_refl _, fun _ _ _ => rfl⟩
theorem Keeps.mono (h : Keeps S w w') (hT : ∀ k, k < w.heap.size → T k → S k) : Keeps T w w' :=
  ⟨h.os, h.tape, h.output, h.size, fun k hk ht => h.block k hk (hT k hk ht)⟩
theorem Keeps.trans (h : Keeps S w w') (h' : Keeps T w' w'') (hT : ∀ k, k < w.heap.size → S k → T k) : Keeps S w w'' :=
  ⟨h'.os.trans h.os, h'.tape.trans h.tape, h'.output.trans h.output, Nat.le_trans h.size h'.size,
    fun k hk hs => (h'.block k (Nat.lt_of_lt_of_le hk h.size) (hT k hk hs)).trans (h.block k hk hs)⟩
theorem Keeps.trans' (h : Keeps S w w') (h' : Keeps S w' w'') : Keeps S w w'' := h.trans h' fun _ _ hs => hs
theorem Keeps.old (h : Old w w') (S : Nat → Prop) : Keeps S w w' := h.mono fun _ _ _ => trivial
theorem Keeps.drew (h : Keeps S w w') : Keeps S w w'.drew := ⟨h.os, h.tape, h.output, h.size, h.block⟩
theorem Keeps.drewN (h : Keeps S w w') (n : Nat) : Keeps S w (w'.drewN n) := ⟨h.os, h.tape, h.output, h.size, h.block⟩
theorem Keeps.ofDrew (h : Keeps S w.drew w') : Keeps S w w' := ⟨h.os, h.tape, h.output, h.size, h.block⟩
theorem Keeps.ofDrewN {n : Nat} (h : Keeps S (w.drewN n) w') : Keeps S w w' := ⟨h.os, h.tape, h.output, h.size, h.block⟩
theorem Keeps.alloc (h : Keeps S w w') (o : Obj) : Keeps S w (w'.alloc o) :=
  h.trans' ⟨rfl, rfl, rfl, by simp, fun k hk _ => Below.heap_alloc _ _ _ hk⟩
theorem Keeps.ofAlloc {o : Obj} (h : Keeps S (w.alloc o) w') : Keeps S w w' :=
  ((Keeps.refl S w).alloc o).trans' h
theorem Keeps.setCell (h : Keeps S w w') {p : Addr} (hp : p.block < w.heap.size → ¬ S p.block) (u : Value) : Keeps S w (w'.setCell p u) :=
  ⟨h.os, h.tape, h.output, by simpa using h.size, fun k hk hs => by
    rw [Below.heap_setCell _ _ _ _ (fun e => hp (e ▸ hk) (e ▸ hs))]; exact h.block k hk hs⟩
theorem Keeps.setRow (h : Keeps S w w') {g : Nat} (hp : g < w.heap.size → ¬ S g) (cs : Array Value) : Keeps S w (w'.setRow g cs) :=
  ⟨h.os, h.tape, h.output, by simpa [World.setRow] using h.size, fun k hk hs => by
    rw [setRow_other _ _ _ _ (show k ≠ g from fun e => hp (e ▸ hk) (e ▸ hs))]; exact h.block k hk hs⟩
theorem Keeps.grown (h : Keeps S w w') {row : Option Nat} (hg : w'.grownBy w'' row) (hr : ∀ k, k < w.heap.size → row = some k → ¬ S k) : Keeps S w w'' :=
  ⟨hg.os.trans h.os, hg.tape.trans h.tape, hg.output.trans h.output, Nat.le_trans h.size hg.size,
    fun k hk hs => (hg.block k (Nat.lt_of_lt_of_le hk h.size) (fun e => hr k hk e.symm hs)).trans (h.block k hk hs)⟩
theorem Keeps.below (h : Old w w') : Below w.heap.size w w' := ⟨h.os, h.tape, h.output, h.size, fun k hk => h.block k hk trivial⟩
theorem Keeps.cell (h : Keeps S w w') {p : Addr} (hp : p.block < w.heap.size) (hs : S p.block) : w'.cell? p = w.cell? p := World.cell?_of_block (h.block _ hp hs)
theorem Keeps.frozen (h : Keeps S w w') {p : Addr} (hp : p.block < w.heap.size) (hs : S p.block) : w'.frozen? p = w.frozen? p := World.frozen?_of_block (h.block _ hp hs)
theorem lt_of_cell {p : Addr} {v : Value} (h : w.cell? p = some v) : p.block < w.heap.size := World.block_lt_of_cell? w p h
theorem lt_of_heap {g : Nat} {o : Obj} (h : w.heap[g]? = some o) : g < w.heap.size := (Array.getElem?_eq_some_iff.1 h).1
theorem Keeps.heap (h : Keeps S w w') {g : Nat} {o : Obj} (hg : w.heap[g]? = some o) (hs : S g) : w'.heap[g]? = some o := (h.block g (lt_of_heap hg) hs).trans hg
theorem frozen_of_heap {g i : Nat} {cs : Array Value} {t : TypeId} (h : w.heap[g]? = some (.cells cs t (0, 0))) : w.frozen? ⟨g, i, none⟩ = false := by
  simp [World.frozen?, h]
theorem cell_of_heap {g i : Nat} {cs : Array Value} {t : TypeId} {f : Nat × Nat} (h : w.heap[g]? = some (.cells cs t f)) : w.cell? ⟨g, i, none⟩ = cs[i]? := cell_of_row w g i cs t f h
theorem heap_setCell {g i : Nat} {cs : Array Value} {t : TypeId} (h : w.heap[g]? = some (.cells cs t (0, 0))) (u : Value) : (w.setCell ⟨g, i, none⟩ u).heap[g]? = some (.cells (cs.setIfInBounds i u) t (0, 0)) := by
  simp [World.setCell, Array.getElem?_modify, h]
theorem heap_at (w : World) (o : Obj) (k : Nat) : (w.alloc o).heap[k]? = if k = w.heap.size then some o else w.heap[k]? := by
  show (w.heap.push o)[k]? = _
  rw [Array.getElem?_push]
theorem own_keeps {base : Nat} {e : TypeId} {size : Nat} {v : Value} {n : Nat} {xs : List Value} (ho : w.ownsRow base e size v n xs) (h : Keeps S w w') (hs : ∀ k, v.ownBlock = some k → S k) : w'.ownsRow base e size v n xs := by
  refine ⟨ho.1, ?_⟩
  rcases ho.2 with hn | ⟨g, cap, cur, rfl, hb, hg, rest⟩
  · exact .inl hn
  · exact .inr ⟨g, cap, cur, rfl, hb, h.heap hg (hs g rfl), rest⟩
theorem own_base {base base' : Nat} {e : TypeId} {size : Nat} {v : Value} {n : Nat} {xs : List Value} (ho : w.ownsRow base e size v n xs) (h : ∀ k, v.ownBlock = some k → base' ≤ k) : w.ownsRow base' e size v n xs := by
  refine ⟨ho.1, ?_⟩
  rcases ho.2 with hn | ⟨g, cap, cur, rfl, hb, hg, rest⟩
  · exact .inl hn
  · exact .inr ⟨g, cap, cur, rfl, h g rfl, hg, rest⟩
theorem own_lt {base : Nat} {e : TypeId} {size : Nat} {v : Value} {n : Nat} {xs : List Value} (ho : w.ownsRow base e size v n xs) {k : Nat} (hk : v.ownBlock = some k) : k < w.heap.size := (ho.lt k hk).2
/-- Rows of different element types lie in different blocks. -/
theorem own_ne {b b' : Nat} {e e' : TypeId} {s s' : Nat} {v v' : Value} {n n' : Nat} {xs xs' : List Value} (h : w.ownsRow b e s v n xs) (h' : w.ownsRow b' e' s' v' n' xs') (hne : e ≠ e') {k : Nat} (hk : v.ownBlock = some k) : v'.ownBlock ≠ some k := by
  intro hk'
  rcases h.2 with ⟨rfl, _⟩ | ⟨g, cap, cur, rfl, hb, hg, rest⟩
  · simp [Value.ownBlock] at hk
  rcases h'.2 with ⟨rfl, _⟩ | ⟨g', cap', cur', rfl, hb', hg', rest'⟩
  · simp [Value.ownBlock] at hk'
  simp only [Value.ownBlock, Option.some.injEq] at hk hk'
  subst hk; subst hk'
  rw [hg] at hg'
  injection hg' with hg'
  injection hg' with _ ht
  exact hne ht
theorem own_ne_heap {b : Nat} {e e' : TypeId} {s : Nat} {v : Value} {n : Nat} {xs : List Value} {g : Nat} {cs : Array Value} {fr : Nat × Nat} (h : w.ownsRow b e s v n xs) (h' : w.heap[g]? = some (.cells cs e' fr)) (hne : e ≠ e') : v.ownBlock ≠ some g := by
  intro hk
  rcases h.2 with ⟨rfl, _⟩ | ⟨g', cap, cur, rfl, hb, hg, rest⟩
  · simp [Value.ownBlock] at hk
  simp only [Value.ownBlock, Option.some.injEq] at hk
  subst hk
  rw [hg] at h'
  injection h' with hg'
  injection hg' with _ ht
  exact hne ht
theorem own_slice {base : Nat} {e : TypeId} {size : Nat} {v : Value} {n : Nat} {xs : List Value} (ho : w.ownsRow base e size v n xs) : ∃ A c, v = .slice A n c ∧ n ≤ c ∧ c ≤ maxLen := by
  rcases ho.2 with ⟨rfl, rfl⟩ | ⟨g, cap, cur, rfl, hb, hg, hnc, hcm, _⟩
  · exact ⟨_, _, rfl, Nat.le_refl _, by simp [maxLen]⟩
  · exact ⟨_, _, rfl, hnc, hcm⟩
end

/-! ### bytes -/

/-- a byte's value -/
abbrev bv (b : UInt8) : Value := .int .u8 (b.toNat : Int)

theorem bv_one (bs : List UInt8) : ∀ u ∈ bs.map bv, u.oneCell' = true := by
  intro u hu
  obtain ⟨b, _, rfl⟩ := List.mem_map.1 hu
  rfl

theorem ofInt_u8 (a : UInt8) : BitVec.ofInt 8 (a.toNat : Int) = a.toBitVec := by
  apply BitVec.eq_of_toNat_eq
  simp
theorem xor_u8 (a b : UInt8) : bits .xor .u8 (a.toNat : Int) (b.toNat : Int) = ((a ^^^ b).toNat : Int) := by
  show IntKind.u8.wrap ((BitVec.ofInt 8 (a.toNat : Int) ^^^ BitVec.ofInt 8 (b.toNat : Int)).toNat : Int) = _
  rw [ofInt_u8, ofInt_u8, IntKind.wrap_u8]
  have e : (a.toBitVec ^^^ b.toBitVec).toNat = (a ^^^ b).toNat := rfl
  have := (a ^^^ b).toNat_lt
  rw [e]
  omega

/-- The slice at A reads as the bytes bs, in blocks that S lets. -/
def Bts (S : Nat → Prop) (w : World) (A : Option Addr) (bs : List UInt8) : Prop :=
  bs.length ≤ 281474976710656 ∧ (bs ≠ [] → ∃ b o, A = some ⟨b, o, none⟩ ∧ S b ∧ ∀ j (h : j < bs.length), w.cell? ⟨b, o + j, none⟩ = some (bv bs[j]))

section
variable {S T : Nat → Prop} {w w' : World} {A : Option Addr} {bs : List UInt8}
theorem Bts.nil (S : Nat → Prop) (w : World) (A : Option Addr) : Bts S w A [] := ⟨by simp, fun h => absurd rfl h⟩
theorem Bts.mono (h : Bts S w A bs) (hT : ∀ k, k < w.heap.size → S k → T k) : Bts T w A bs :=
  ⟨h.1, fun hn => by
    obtain ⟨b, o, e, hs, hc⟩ := h.2 hn
    have h0 := hc 0 (List.length_pos_iff.2 hn)
    exact ⟨b, o, e, hT b (lt_of_cell h0) hs, hc⟩⟩
theorem Bts.keep (h : Bts S w A bs) (hk : Keeps S w w') : Bts S w' A bs :=
  ⟨h.1, fun hn => by
    obtain ⟨b, o, e, hs, hc⟩ := h.2 hn
    exact ⟨b, o, e, hs, fun j hj => (hk.cell (p := ⟨b, o + j, none⟩) (lt_of_cell (p := ⟨b, o + j, none⟩) (hc j hj)) hs).trans (hc j hj)⟩⟩
theorem Bts.keep' (h : Bts S w A bs) (hk : Keeps T w w') (hT : ∀ k, k < w.heap.size → S k → T k) : Bts S w' A bs := h.keep (hk.mono hT)
/-- at an index -/
theorem Bts.at_ (h : Bts S w A bs) {j : Nat} (hj : j < bs.length) : ∃ b o, A = some ⟨b, o, none⟩ ∧ S b ∧ w.cell? ⟨b, o + j, none⟩ = some (bv bs[j]) := by
  obtain ⟨b, o, e, hs, hc⟩ := h.2 (by rintro rfl; simp at hj)
  exact ⟨b, o, e, hs, hc j hj⟩
/-- the source of an append or a copy -/
theorem Bts.src (h : Bts S w A bs) (hn : bs ≠ []) : ∃ ad, A = some ad ∧ S ad.block ∧ ∀ j u, (bs.map bv)[j]? = some u → w.cell? (ad.add j) = some u := by
  obtain ⟨b, o, e, hs, hc⟩ := h.2 hn
  refine ⟨_, e, hs, fun j u hu => ?_⟩
  obtain ⟨hj, rfl⟩ := List.getElem?_eq_some_iff.1 hu
  rw [Addr.add_lit]
  simpa using hc j (by simpa using hj)
end

/-- The slice value v owns the bytes bs; its block, if any, is F's. -/
structure OwnB (F : Nat → Prop) (w : World) (v : Value) (bs : List UInt8) : Prop where
  row : w.ownsRow 0 5 1 v bs.length (bs.map bv)
  foot : ∀ k, v.ownBlock = some k → F k
  len : bs.length ≤ 281474976710656

section
variable {F G : Nat → Prop} {w w' : World} {v : Value} {bs : List UInt8}
theorem OwnB.keep (h : OwnB F w v bs) (hk : Keeps F w w') : OwnB F w' v bs := ⟨own_keeps h.row hk h.foot, h.foot, h.len⟩
theorem OwnB.mono (h : OwnB F w v bs) (hG : ∀ k, k < w.heap.size → F k → G k) : OwnB G w v bs := ⟨h.row, fun k hk => hG k (own_lt h.row hk) (h.foot k hk), h.len⟩
theorem OwnB.slice (h : OwnB F w v bs) : ∃ A c, v = .slice A bs.length c ∧ bs.length ≤ c ∧ c ≤ maxLen := own_slice h.row
theorem own_one {base : Nat} {e : TypeId} {size : Nat} {v : Value} {n : Nat} {xs : List Value} (ho : w.ownsRow base e size v n xs) : v.oneCell' = true := by
  obtain ⟨A, c, rfl, _⟩ := own_slice ho
  rfl
theorem OwnB.one (h : OwnB F w v bs) : v.oneCell' = true := own_one h.row
theorem two_one {k : IntKind} {t : Int} {v : Value} (h : v.oneCell' = true) : ∀ u ∈ [Value.int k t, v], u.oneCell' = true := by
  intro u hu
  simp at hu
  rcases hu with rfl | rfl
  · rfl
  · exact h
theorem OwnB.nil (F : Nat → Prop) (w : World) : OwnB F w (.slice none 0 0) [] := ⟨World.ownsRow_nil _ _ _ _, by simp [Value.ownBlock], by simp⟩
theorem OwnB.own_ (h : OwnB F w v bs) : OwnB (fun k => v.ownBlock = some k) w v bs := ⟨h.row, fun _ h => h, h.len⟩
theorem OwnB.bts {A : Option Addr} {c : Nat} (h : OwnB F w (.slice A bs.length c) bs) : Bts F w A bs := by
  refine ⟨h.len, fun hn => ?_⟩
  rcases h.row.2 with ⟨_, h0⟩ | ⟨g, cap, cur, hv, hb, hg, hnc, hcm, hcs, ht⟩
  · exact absurd (List.length_eq_zero_iff.1 h0) hn
  · injection hv with hA _ _
    subst hA
    refine ⟨g, 0, rfl, h.foot g rfl, fun j hj => ?_⟩
    rw [Nat.zero_add, cell_of_heap hg]
    have e : (cur.toList.take (bs.length * 1))[j]? = (bs.map bv)[j]? := by rw [ht]
    rw [List.getElem?_take, if_pos (by omega)] at e
    simpa [hj] using e
end

/-! ### make, copy and append, as run equations -/

section
variable {P : Program} (w : World)

/-- copy onto a row at o, whatever the source's address: the world behind it is a letter. -/
theorem run_copy_ex (dT sT ty elem : TypeId) (size : Nat) (g o dLen dCap : Nat) (dp sp : Option Addr) (sLen sCap : Nat) (cur : List Value) (t : TypeId) (cs : List Value)
    (hu : P.underlying dT = some (.slice elem)) (hs : (P.info? elem).map (·.size) = some size) (hsz : 0 < size)
    (hg : w.heap[g]? = some (.cells cur.toArray t (0, 0))) (hn : cs.length = Nat.min sLen dLen * size)
    (hd : cs ≠ [] → dp = some ⟨g, o, none⟩) (hsrc : cs ≠ [] → ∃ ad, sp = some ad ∧ ∀ j v, cs[j]? = some v → w.cell? (ad.add j) = some v)
    (hfit : o + cs.length ≤ cur.length) (h1 : ∀ v ∈ cs, v.oneCell' = true) :
    ∃ w', (Builtin.copy_ #[dT, sT] ty #[.slice dp dLen dCap, .slice sp sLen sCap]).run P w = .ok (goInt (Nat.min sLen dLen)) w' ∧
      w'.heap[g]? = some (.cells (cur.take o ++ cs ++ cur.drop (o + cs.length)).toArray t (0, 0)) ∧ Keeps (· ≠ g) w w' ∧ w'.heap.size = w.heap.size := by
  cases hq : P.info? elem with
  | none => simp [hq] at hs
  | some i =>
    have hi : i.size = size := by simpa [hq] using hs
    by_cases h0 : cs = []
    · subst h0
      have hm : Nat.min sLen dLen = 0 := by
        rcases Nat.eq_zero_or_pos (Nat.min sLen dLen) with h | h
        · exact h
        · have := Nat.mul_pos h hsz; simp at hn; omega
      refine ⟨w, ?_, by simpa using hg, Keeps.refl _ _, rfl⟩
      cases dp <;> cases sp <;>
        simp [Builtin.copy_, run_underlying hu, Builtin.lenOf, Builtin.firstCells, sizeOf, typeInfo, hq, hm, loadCells, loadCellsFrom, storeCells]
    · obtain ⟨ad, rfl, hsr⟩ := hsrc h0
      obtain rfl := hd h0
      have hl := run_loadCells_list (P := P) w ad cs hsr
      have hst := run_storeCells_at P g o t cs 0 cur.toArray w hg (by simpa using hfit) h1
      refine ⟨w.setRow g (cur.take o ++ cs ++ cur.drop (o + cs.length)).toArray, ?_, setRow_heap w g _ _ t _ hg, (Keeps.refl _ _).setRow (by simp) _, by simp [World.setRow]⟩
      simp [Builtin.copy_, run_underlying hu, Builtin.lenOf, Builtin.firstCells, sizeOf, typeInfo, hq, hi, ← hn, hl, hst]

/-- append onto a row of the call's own. -/
theorem run_append_ex (t ty e : TypeId) {z : Value} {size bytes : Nat} (ht : P.underlying t = some (.slice e)) (hi : (P.info? e).map (fun i => (i.zero, i.size, i.bytes)) = some (some z, size, bytes))
    (hzs : z.cells.size = size) (hsz : 0 < size)
    {v : Value} {n : Nat} {xs : List Value} (hown : w.ownsRow 0 e size v n xs)
    (A : Option Addr) (m c : Nat) (news : List Value) (hl : news.length = m * size) (hnews : news ≠ [] → ∃ ad, A = some ad ∧ ∀ j u, news[j]? = some u → w.cell? (ad.add j) = some u) (h1 : ∀ u ∈ news, u.oneCell' = true)
    (hb : (n + m) * bytes ≤ 140737488355328) (h63 : n + m ≤ maxLen) :
    ∃ v' w', (Builtin.append_ #[t, t] ty #[v, .slice A m c]).run P w = .ok v' w' ∧ w'.ownsRow 0 e size v' (n + m) (xs ++ news) ∧ w.grownBy w' v.ownBlock ∧
      (v'.ownBlock = v.ownBlock ∨ v'.ownBlock = some w.heap.size) := by
  obtain ⟨i, hi0, hz0, hz1, hz2⟩ := info_parts hi
  by_cases h0 : news = []
  · subst h0
    have hm : m = 0 := by
      rcases Nat.eq_zero_or_pos m with h | h
      · exact h
      · have := Nat.mul_pos h hsz; simp at hl; omega
    subst hm
    refine ⟨v, w, ?_, by simpa using hown, World.grownBy.refl w _, .inl rfl⟩
    rcases hown.2 with ⟨rfl, rfl⟩ | ⟨g, cap, cur, rfl, _, _, hnc, _⟩
    · cases A <;> simp [Builtin.append_, run_underlying ht, sizeOf, typeInfo, hi0, Builtin.lenOf, Builtin.firstCells, loadCells, loadCellsFrom]
    · cases A <;> simp [Builtin.append_, run_underlying ht, sizeOf, typeInfo, hi0, Builtin.lenOf, Builtin.firstCells, loadCells, loadCellsFrom, hnc, storeCells]
  · obtain ⟨ad, rfl, hc⟩ := hnews h0
    obtain ⟨v', w', hr, h2, h3, _, h5⟩ := run_append_own_at (P := P) w 0 t ty e i z size bytes ht hi0 hz0 hz1 hz2 hzs hsz v n xs hown ad m c news hl hc h1 h63 hb (Nat.zero_le _)
    exact ⟨v', w', hr, h2, h3, h5⟩
/-- append onto a row of the call's own: at a single operation, at a list of operations, at a step of a region that draws its order. -/
theorem wp_append_ex {o : Oper} {a : Act} {K : Act → World → Prop} {Q : Exit → Act → World → Prop} (s x : Operand) (t e : TypeId)
    (ho : o.op = .call { callee := .builtin .append, args := #[s, x], argTypes := #[t, t] })
    {z : Value} {size bytes : Nat} (ht : P.underlying t = some (.slice e)) (hi : (P.info? e).map (fun i => (i.zero, i.size, i.bytes)) = some (some z, size, bytes))
    (hzs : z.cells.size = size) (hsz : 0 < size)
    {v : Value} {n : Nat} {xs : List Value} (hs : a.eval s = v) (hown : w.ownsRow 0 e size v n xs)
    (A : Option Addr) (m c : Nat) (news : List Value) (hx : a.eval x = .slice A m c) (hl : news.length = m * size) (hnews : news ≠ [] → ∃ ad, A = some ad ∧ ∀ j u, news[j]? = some u → w.cell? (ad.add j) = some u) (h1 : ∀ u ∈ news, u.oneCell' = true)
    (hb : (n + m) * bytes ≤ 140737488355328) (h63 : n + m ≤ maxLen)
    (h : ∀ v' w', w'.ownsRow 0 e size v' (n + m) (xs ++ news) → w.grownBy w' v.ownBlock → (v'.ownBlock = v.ownBlock ∨ v'.ownBlock = some w.heap.size) → K (a.put o.dst v') w') : o.wp P a w K Q := by
  obtain ⟨v', w', hr, h2, h3, h4⟩ := run_append_ex (P := P) w t o.type e ht hi hzs hsz hown A m c news hl hnews h1 hb h63
  unfold Oper.wp execOp
  simp only [ho, resolve, invoke, builtin, Sem.run_bind, Sem.run_pure, Result.andThen_ok, List.map_toArray, List.map_cons, List.map_nil, hs, hx, hr]
  exact h v' w' h2 h3 h4

theorem wpList_append_ex {ops : Array Oper} {rest : List Oper} {o : Oper} {a : Act} {Q : Exit → Act → World → Prop} (hgd : o.guard = none) (s x : Operand) (t e : TypeId)
    (ho : o.op = .call { callee := .builtin .append, args := #[s, x], argTypes := #[t, t] })
    {z : Value} {size bytes : Nat} (ht : P.underlying t = some (.slice e)) (hi : (P.info? e).map (fun i => (i.zero, i.size, i.bytes)) = some (some z, size, bytes))
    (hzs : z.cells.size = size) (hsz : 0 < size)
    {v : Value} {n : Nat} {xs : List Value} (hs : a.eval s = v) (hown : w.ownsRow 0 e size v n xs)
    (A : Option Addr) (m c : Nat) (news : List Value) (hx : a.eval x = .slice A m c) (hl : news.length = m * size) (hnews : news ≠ [] → ∃ ad, A = some ad ∧ ∀ j u, news[j]? = some u → w.cell? (ad.add j) = some u) (h1 : ∀ u ∈ news, u.oneCell' = true)
    (hb : (n + m) * bytes ≤ 140737488355328) (h63 : n + m ≤ maxLen)
    (h : ∀ v' w', w'.ownsRow 0 e size v' (n + m) (xs ++ news) → w.grownBy w' v.ownBlock → (v'.ownBlock = v.ownBlock ∨ v'.ownBlock = some w.heap.size) → wpList P ops Q rest (a.put o.dst v') w') : wpList P ops Q (o :: rest) a w :=
  wpList_plain hgd fun _ hK => wp_append_ex w s x t e ho ht hi hzs hsz hs hown A m c news hx hl hnews h1 hb h63 fun v' w' h2 h3 h4 => hK _ _ (h v' w' h2 h3 h4)

theorem step_append_ex {ops : Array Oper} {o : Oper} {a : Act} {K : Act → World → Prop} {Q : Exit → Act → World → Prop} {E : Prop} (hgd : o.guard = none) (s x : Operand) (t e : TypeId)
    (ho : o.op = .call { callee := .builtin .append, args := #[s, x], argTypes := #[t, t] })
    {z : Value} {size bytes : Nat} (ht : P.underlying t = some (.slice e)) (hi : (P.info? e).map (fun i => (i.zero, i.size, i.bytes)) = some (some z, size, bytes))
    (hzs : z.cells.size = size) (hsz : 0 < size)
    {v : Value} {n : Nat} {xs : List Value} (hs : a.eval s = v) (hown : w.ownsRow 0 e size v n xs)
    (A : Option Addr) (m c : Nat) (news : List Value) (hx : a.eval x = .slice A m c) (hl : news.length = m * size) (hnews : news ≠ [] → ∃ ad, A = some ad ∧ ∀ j u, news[j]? = some u → w.cell? (ad.add j) = some u) (h1 : ∀ u ∈ news, u.oneCell' = true)
    (hb : (n + m) * bytes ≤ 140737488355328) (h63 : n + m ≤ maxLen)
    (h : ∀ v' w', w'.ownsRow 0 e size v' (n + m) (xs ++ news) → w.grownBy w' v.ownBlock → (v'.ownBlock = v.ownBlock ∨ v'.ownBlock = some w.heap.size) → K (a.put o.dst v') w') :
    if Region.wanted o (yielded ops a.tmps) = true then Oper.wp P o a w K Q else E := by
  have hw : Region.wanted o (yielded ops a.tmps) = true := by simp [Region.wanted, hgd]
  rw [if_pos hw]
  exact wp_append_ex w s x t e ho ht hi hzs hsz hs hown A m c news hx hl hnews h1 hb h63 h

/-- copy onto a row: at a single operation, at a list of operations. -/
theorem wp_copy_ex {o : Oper} {a : Act} {K : Act → World → Prop} {Q : Exit → Act → World → Prop} (d s : Operand) (dT sT elem : TypeId) (size : Nat)
    (ho : o.op = .call { callee := .builtin .copy, args := #[d, s], argTypes := #[dT, sT] })
    (hu : P.underlying dT = some (.slice elem)) (hs : (P.info? elem).map (·.size) = some size) (hsz : 0 < size)
    (g off dLen dCap : Nat) (dp sp : Option Addr) (sLen sCap : Nat) (hd : a.eval d = .slice dp dLen dCap) (hx : a.eval s = .slice sp sLen sCap) (cur : List Value) (t : TypeId) (cs : List Value)
    (hg : w.heap[g]? = some (.cells cur.toArray t (0, 0))) (hn : cs.length = Nat.min sLen dLen * size)
    (hdp : cs ≠ [] → dp = some ⟨g, off, none⟩) (hsrc : cs ≠ [] → ∃ ad, sp = some ad ∧ ∀ j v, cs[j]? = some v → w.cell? (ad.add j) = some v)
    (hfit : off + cs.length ≤ cur.length) (h1 : ∀ v ∈ cs, v.oneCell' = true)
    (h : ∀ w', w'.heap[g]? = some (.cells (cur.take off ++ cs ++ cur.drop (off + cs.length)).toArray t (0, 0)) → Keeps (· ≠ g) w w' → w'.heap.size = w.heap.size → K (a.put o.dst (goInt (Nat.min sLen dLen))) w') : o.wp P a w K Q := by
  obtain ⟨w', hr, h2, h3, h4⟩ := run_copy_ex (P := P) w dT sT o.type elem size g off dLen dCap dp sp sLen sCap cur t cs hu hs hsz hg hn hdp hsrc hfit h1
  unfold Oper.wp execOp
  simp only [ho, resolve, invoke, builtin, Sem.run_bind, Sem.run_pure, Result.andThen_ok, List.map_toArray, List.map_cons, List.map_nil, hd, hx, hr]
  exact h w' h2 h3 h4
end
end Go.Proofs.Ytgnndggbjipioaa
