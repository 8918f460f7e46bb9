/- weftlaw18.placed: packets handed in always in the same places: what lies in memory. Plain theorems; no conditions beyond those written. -/
import Derived.Test.YtgnndggbjipioaaAUnQ
namespace Go.Proofs.Ytgnndggbjipioaa
open Go.RowKit

theorem madeCells_two (a b : Value) (n : Nat) {i : Nat} (h : i < n) : (madeCells #[a, b] (n * 2))[i * 2]? = some a ∧ (madeCells #[a, b] (n * 2))[i * 2 + 1]? = some b := by
  unfold madeCells
  have h0 : (#[a, b] : Array Value).size = 2 := rfl
  constructor
  · rw [Array.getElem?_map, Array.getElem?_range, if_pos (by omega), h0]
    show some (#[a, b][i * 2 % 2]!) = _
    rw [Nat.mul_mod_left]
    rfl
  · rw [Array.getElem?_map, Array.getElem?_range, if_pos (by omega), h0]
    show some (#[a, b][(i * 2 + 1) % 2]!) = _
    rw [show (i * 2 + 1) % 2 = 1 by omega]
    rfl

/-- Inner lists: vI: inn, none of them empty, each in a block of its own. -/
structure InnM (w : World) (vI : Value) (inn : List Value) : Prop where
  i : w.ownsRow 0 46 1 vI inn.length inn
  each : ∀ x ∈ inn, ∃ bs, bs ≠ [] ∧ OwnB (fun _ => True) w x bs
  dis : inn.Pairwise fun x y => ∀ k, x.ownBlock = some k → y.ownBlock ≠ some k

/-- their blocks -/
def InnF (vI : Value) (inn : List Value) (k : Nat) : Prop := vI.ownBlock = some k ∨ ∃ x ∈ inn, x.ownBlock = some k

section
variable {w w' w1 w4 : World} {vI : Value} {inn : List Value} {F : Nat → Prop}
theorem InnM.keep (h : InnM w vI inn) (hk : Keeps F w w') (hF : ∀ k, InnF vI inn k → F k) : InnM w' vI inn :=
  ⟨own_keeps h.i hk fun k hk' => hF k (.inl hk'), fun x hx => by
    obtain ⟨bs, hne, hb⟩ := h.each x hx
    exact ⟨bs, hne, own_keeps hb.row hk fun k hk' => hF k (.inr ⟨x, hx, hk'⟩), fun _ _ => trivial, hb.len⟩, h.dis⟩
theorem InnM.lt (h : InnM w vI inn) {k : Nat} (hk : InnF vI inn k) : k < w.heap.size := by
  rcases hk with hk | ⟨x, hx, hk⟩
  · exact own_lt h.i hk
  · obtain ⟨bs, _, hb⟩ := h.each x hx
    exact own_lt hb.row hk
theorem InnM.ne (h : InnM w vI inn) {x : Value} (hx : x ∈ inn) {k : Nat} (hk : x.ownBlock = some k) : vI.ownBlock ≠ some k := by
  obtain ⟨bs, _, hb⟩ := h.each x hx
  exact own_ne hb.row h.i (by decide) hk
/-- A block of another kind is none of theirs. -/
theorem InnM.other (h : InnM w vI inn) {g t : Nat} {cs : Array Value} {fr : Nat × Nat} (hg : w.heap[g]? = some (.cells cs t fr)) (h5 : t ≠ 5) (h46 : t ≠ 46) : ¬ InnF vI inn g := by
  rintro (e | ⟨x, hx, e⟩)
  · exact own_ne_heap h.i hg (Ne.symm h46) e
  · obtain ⟨bs, _, hb⟩ := h.each x hx
    exact own_ne_heap hb.row hg (Ne.symm h5) e
theorem InnM.nil (w : World) : InnM w (.slice none 0 0) [] := ⟨World.ownsRow_nil _ _ _ _, by simp, List.Pairwise.nil⟩

/-- One inner list more. -/
theorem InnM.push {v v2 : Value} {bs : List UInt8} (h : InnM w vI inn) (K1 : Old w w1) (hne : bs ≠ []) (hv : OwnB (fun k => w.heap.size ≤ k) w1 v bs) (hg : w1.grownBy w4 vI.ownBlock) (hown : w4.ownsRow 0 46 1 v2 (inn.length + 1) (inn ++ [v])) (hat : v2.ownBlock = vI.ownBlock ∨ v2.ownBlock = some w1.heap.size) :
    InnM w4 v2 (inn ++ [v]) ∧ Keeps (fun k => vI.ownBlock ≠ some k) w w4 ∧ ∀ k, InnF v2 (inn ++ [v]) k → InnF vI inn k ∨ w.heap.size ≤ k := by
  have K : Keeps (fun k => vI.ownBlock ≠ some k) w1 w4 := (Keeps.refl _ w1).grown hg (fun i _ h hn => hn h)
  have hz1 := K1.size
  have KB : Keeps (fun k => vI.ownBlock ≠ some k) w w4 := (K1.old _).trans' K
  have hv4 : w4.ownsRow 0 5 1 v bs.length (bs.map bv) := own_keeps hv.row K (fun k hk e => own_ne hv.row (own_keeps h.i K1 (fun _ _ => trivial)) (by decide) hk e)
  refine ⟨⟨by rw [List.length_append]; exact hown, fun x hx => ?_, ?_⟩, KB, fun k hk => ?_⟩
  · rcases List.mem_append.1 hx with hx | hx
    · obtain ⟨bs', hne', hb⟩ := h.each x hx
      exact ⟨bs', hne', own_keeps hb.row KB fun k hk => h.ne hx hk, fun _ _ => trivial, hb.len⟩
    · obtain rfl : x = v := by simpa using hx
      exact ⟨bs, hne, hv4, fun _ _ => trivial, hv.len⟩
  · refine List.pairwise_append.2 ⟨h.dis, List.pairwise_singleton _ _, fun x hx y hy k hk => ?_⟩
    obtain rfl : y = v := by simpa using hy
    intro e
    have h1 := h.lt (k := k) (.inr ⟨x, hx, hk⟩)
    have h2 := hv.foot k e
    omega
  · rcases hk with hk | ⟨x, hx, hk⟩
    · rcases hat with e | e
      · rw [e] at hk; exact .inl (.inl hk)
      · rw [e] at hk; injection hk with hk; right; omega
    · rcases List.mem_append.1 hx with hx | hx
      · exact .inl (.inr ⟨x, hx, hk⟩)
      · obtain rfl : x = v := by simpa using hx
        exact .inr (hv.foot k hk)

/-- Another inner list at a place. -/
theorem InnM.setI {v : Value} {bs : List UInt8} {gI cI i n : Nat} (h : InnM w (.slice (some ⟨gI, 0, none⟩) n cI) inn) (_ : i < inn.length) (hn : n = inn.length) (K1 : Old w w1) (hne : bs ≠ []) (hv : OwnB (fun k => w.heap.size ≤ k) w1 v bs) :
    InnM (w1.setCell ⟨gI, i, none⟩ v) (.slice (some ⟨gI, 0, none⟩) n cI) (inn.set i v) ∧ Keeps (· ≠ gI) w (w1.setCell ⟨gI, i, none⟩ v) ∧ ∀ k, InnF (.slice (some ⟨gI, 0, none⟩) n cI) (inn.set i v) k → InnF (.slice (some ⟨gI, 0, none⟩) n cI) inn k ∨ w.heap.size ≤ k := by
  subst hn
  have hz1 := K1.size
  have KS : Keeps (· ≠ gI) w1 (w1.setCell ⟨gI, i, none⟩ v) := (Keeps.refl _ _).setCell (fun _ h => h rfl) _
  have KB : Keeps (· ≠ gI) w (w1.setCell ⟨gI, i, none⟩ v) := (K1.old _).trans' KS
  have hgb : (Value.slice (some ⟨gI, 0, none⟩) inn.length cI).ownBlock = some gI := rfl
  obtain ⟨_, _, hcc, _, hcm⟩ := own_slice h.i
  injection hcc with _ _ hcc
  subst hcc
  have hgl := own_lt h.i hgb
  have hrow := (Row1.ofOwn (own_keeps h.i K1 (fun _ _ => trivial))).set i v
  refine ⟨⟨?_, fun x hx => ?_, ?_⟩, KB, fun k hk => ?_⟩
  · rw [List.length_set]
    exact hrow.own (by simp) hcm
  · rcases List.mem_or_eq_of_mem_set hx with hx | rfl
    · obtain ⟨bs', hne', hb⟩ := h.each x hx
      exact ⟨bs', hne', own_keeps hb.row KB (fun k hk e => h.ne hx hk (by rw [hgb, e])), fun _ _ => trivial, hb.len⟩
    · exact ⟨bs, hne, own_keeps hv.row KS (fun k hk e => by have h1 := hv.foot k hk; have h1' : w.heap.size ≤ k := h1; omega), fun _ _ => trivial, hv.len⟩
  · rw [List.pairwise_iff_getElem]
    intro a b ha hb hab k hk e
    rw [List.length_set] at ha hb
    have hd := List.pairwise_iff_getElem.1 h.dis a b ha hb hab
    have old : ∀ j (hj : j < inn.length) k, inn[j].ownBlock = some k → k < w.heap.size := fun j hj k hk => h.lt (.inr ⟨_, List.getElem_mem hj, hk⟩)
    have fresh : ∀ k, v.ownBlock = some k → w.heap.size ≤ k := fun k hk => hv.foot k hk
    rw [List.getElem_set] at hk e
    split at hk <;> split at e
    · omega
    · have h1 := fresh k hk; have h2 := old b hb k e; omega
    · have h1 := fresh k e; have h2 := old a ha k hk; omega
    · exact hd k hk e
  · rcases hk with hk | ⟨x, hx, hk⟩
    · exact .inl (.inl hk)
    · rcases List.mem_or_eq_of_mem_set hx with hx | rfl
      · exact .inl (.inr ⟨x, hx, hk⟩)
      · exact .inr (hv.foot k hk)

/-- An inner list's bytes are other ones. -/
theorem InnM.fill {i g n c : Nat} {zs : List UInt8} (h : InnM w vI inn) (hi : inn[i]? = some (.slice (some ⟨g, 0, none⟩) n c)) (K : Keeps (· ≠ g) w w') (hr : Row1 w' 5 g c (zs.map bv)) (hz : zs.length = n) (hn : 0 < n) (hl : n ≤ 281474976710656) (hc : c ≤ maxLen) : InnM w' vI inn := by
  obtain ⟨hil, hie⟩ := List.getElem?_eq_some_iff.1 hi
  have hm : (Value.slice (some ⟨g, 0, none⟩) n c) ∈ inn := hie ▸ List.getElem_mem hil
  have hgb : (Value.slice (some ⟨g, 0, none⟩) n c).ownBlock = some g := rfl
  refine ⟨own_keeps h.i K (fun k hk e => h.ne hm hgb (by rw [← e]; exact hk)), fun x hx => ?_, h.dis⟩
  obtain ⟨j, hj, rfl⟩ := List.getElem_of_mem hx
  by_cases hji : j = i
  · subst hji
    rw [hie]
    have hnz : zs ≠ [] := fun e => by rw [e] at hz; simp at hz; omega
    have ho := hr.own (n := n) (by rw [List.length_map]; omega) hc
    exact ⟨zs, hnz, ⟨by rw [hz]; exact ho, fun _ _ => trivial, by omega⟩⟩
  · obtain ⟨bs, hne, hb⟩ := h.each inn[j] hx
    refine ⟨bs, hne, own_keeps hb.row K (fun k hk e => ?_), fun _ _ => trivial, hb.len⟩
    subst e
    have hd := List.pairwise_iff_getElem.1 h.dis
    rcases Nat.lt_or_gt_of_ne hji with hlt | hlt
    · exact hd j i hj hil hlt k hk (by rw [hie]; rfl)
    · exact hd i j hil hj hlt k (by rw [hie]; rfl) hk
end

theorem Row1.btsT {w : World} {g c : Nat} {zs : List UInt8} (h : Row1 w 5 g c (zs.map bv)) {n : Nat} (hn : n ≤ zs.length) (hl : n ≤ 281474976710656) : Bts (fun k => k = g) w (some ⟨g, 0, none⟩) (zs.take n) := by
  have hln : (zs.take n).length = n := by rw [List.length_take]; omega
  refine ⟨by rw [hln]; exact hl, fun _ => ⟨g, 0, rfl, rfl, fun j hj => ?_⟩⟩
  rw [hln] at hj
  rw [Nat.zero_add, h.cell (by rw [List.length_map]; omega), List.getElem?_map, List.getElem?_eq_getElem (by omega), List.getElem_take]
  rfl

abbrev zerosP (N : Nat) : List UInt8 := List.replicate N 0
theorem made_own {w : World} {N : Nat} (hN : N ≤ 140737488355327) : OwnB (fun k => w.heap.size ≤ k) (w.alloc (.cells (madeCells #[.int .u8 0] N) 5)) (.slice (some ⟨w.heap.size, 0, none⟩) N N) (zerosP N) := by
  have hr : (w.alloc (.cells (madeCells #[.int .u8 0] N) 5)).heap[w.heap.size]? = some (.cells ((zerosP N).map bv).toArray 5 (0, 0)) := by
    rw [heap_alloc_new, List.map_replicate, ← toList_madeCells_one]
    rfl
  have hrow : Row1 (w.alloc (.cells (madeCells #[.int .u8 0] N) 5)) 5 w.heap.size N ((zerosP N).map bv) := ⟨_, hr, by simp, by simp, by simp⟩
  exact ⟨by
    have h := hrow.own (n := N) (by simp) (by unfold maxLen; omega)
    simpa using h, fun k hk => by
    have e : w.heap.size = k := by simpa [Value.ownBlock] using hk
    show w.heap.size ≤ k
    omega, by simp; omega⟩
theorem fill_step (bs ys : List UInt8) (k : Nat) (hk : k < bs.length) (hl : bs.length ≤ ys.length) : ((bs.take k ++ ys.drop k).map bv).set k (bv bs[k]) = (bs.take (k + 1) ++ ys.drop (k + 1)).map bv := by
  apply List.ext_getElem?
  intro i
  rw [List.getElem?_set]
  have h1 : (bs.take k).length = k := by rw [List.length_take]; omega
  have h2 : (bs.take (k + 1)).length = k + 1 := by rw [List.length_take]; omega
  by_cases hik : k = i
  · subst hik
    rw [if_pos rfl, if_pos (by rw [List.length_map, List.length_append, h1, List.length_drop]; omega), List.getElem?_map, List.getElem?_append_left (by omega), List.getElem?_take, if_pos (by omega), List.getElem?_eq_getElem hk]
    rfl
  · rw [if_neg hik, List.getElem?_map, List.getElem?_map]
    by_cases hlt : i < k
    · rw [List.getElem?_append_left (by omega), List.getElem?_append_left (by omega), List.getElem?_take, List.getElem?_take, if_pos hlt, if_pos (by omega)]
    · rw [List.getElem?_append_right (by omega), List.getElem?_append_right (by omega), h1, h2, List.getElem?_drop, List.getElem?_drop, show k + (i - k) = i by omega, show k + 1 + (i - (k + 1)) = i by omega]

/-- The first j packets lie in the outer list's block, their bytes in the inner lists. -/
def LaidO (w : World) (cs : Array Value) (inn : List Value) (ps : List Pk) (j : Nat) : Prop :=
  ∀ i (h : i < ps.length), i < j → ∃ g c, cs[i * 2]? = some (.int .u32 ps[i].1) ∧ cs[i * 2 + 1]? = some (.slice (some ⟨g, 0, none⟩) ps[i].2.length c) ∧ ps[i].2.length ≤ c ∧ Bts (fun k => k = g) w (some ⟨g, 0, none⟩) ps[i].2 ∧ inn[i]?.bind Value.ownBlock = some g

/-- The outer list. -/
def OutM (b0 : Nat) (H : Nat → Prop) (w : World) (AO : Option Addr) (N : Nat) (inn : List Value) (ps : List Pk) (j : Nat) : Prop :=
  (N = 0 ∧ AO = none) ∨ ∃ gO cs, AO = some ⟨gO, 0, none⟩ ∧ w.heap[gO]? = some (.cells cs 48 (0, 0)) ∧ cs.size = N * 2 ∧ b0 ≤ gO ∧ ¬ H gO ∧ LaidO w cs inn ps j

/-- Two nets, and places of packets apart from them, all in new blocks. -/
structure PlJ (w : World) (gn gm lm : Nat) (H : Nat → Prop) (M : Nat) (AO : Option Addr) (N : Nat) (ps : List Pk) (j : Nat) (vI : Value) (inn : List Value) (wr : World) : Prop where
  t : Twin H wr gn gm lm
  hn : ∀ k, H k → w.heap.size ≤ k
  old : Old w wr
  m : InnM wr vI inn
  il : inn.length ≤ M
  out : OutM w.heap.size H wr AO N inn ps j
  new : ∀ k, InnF vI inn k → w.heap.size ≤ k ∧ ¬ H k

section
variable {w wr w' w1 w4 : World} {gn gm lm M N j : Nat} {H F : Nat → Prop} {AO : Option Addr} {ps : List Pk} {vI : Value} {inn : List Value}
theorem OutM.keep {b0 : Nat} (h : OutM b0 H wr AO N inn ps j) (hk : Keeps F wr w') (hO : ∀ g cs, wr.heap[g]? = some (.cells cs 48 (0, 0)) → b0 ≤ g → ¬ H g → F g) (hI : ∀ i g, i < j → inn[i]?.bind Value.ownBlock = some g → F g) : OutM b0 H w' AO N inn ps j := by
  rcases h with h | ⟨gO, cs, e, hg, hs, hb, hH, hl⟩
  · exact .inl h
  · refine .inr ⟨gO, cs, e, hk.heap hg (hO gO cs hg hb hH), hs, hb, hH, fun i hi hij => ?_⟩
    obtain ⟨g, c, h1, h2, h3, h4, h5⟩ := hl i hi hij
    exact ⟨g, c, h1, h2, h3, h4.keep (hk.mono fun k _ (e' : k = g) => by rw [e']; exact hI i g hij h5), h5⟩
theorem OutM.zero {b0 : Nat} {qs : List Pk} {inn2 : List Value} (h : OutM b0 H wr AO N inn ps j) : OutM b0 H wr AO N inn2 qs 0 := by
  rcases h with h | ⟨gO, cs, e, hg, hs, hb, hH, _⟩
  · exact .inl h
  · exact .inr ⟨gO, cs, e, hg, hs, hb, hH, fun i _ h => by omega⟩
theorem bind_mem {inn : List Value} {i g : Nat} (h : inn[i]?.bind Value.ownBlock = some g) : ∃ x ∈ inn, x.ownBlock = some g := by
  cases hi : inn[i]? with
  | none => rw [hi] at h; simp at h
  | some x => rw [hi] at h; exact ⟨x, List.mem_of_getElem? hi, h⟩

/-- New blocks, nothing else. -/
theorem PlJ.more (h : PlJ w gn gm lm H M AO N ps j vI inn wr) (hk : Old wr w') : PlJ w gn gm lm H M AO N ps j vI inn w' :=
  ⟨h.t.keep (hk.old _), h.hn, h.old.trans' hk, h.m.keep hk fun _ _ => trivial, h.il, h.out.keep hk (fun _ _ _ _ _ => trivial) fun _ _ _ _ => trivial, h.new⟩
theorem PlJ.begin {qs : List Pk} (h : PlJ w gn gm lm H M AO N ps j vI inn wr) : PlJ w gn gm lm H M AO N qs 0 vI inn wr := ⟨h.t, h.hn, h.old, h.m, h.il, h.out.zero, h.new⟩
/-- Another outer list. -/
theorem PlJ.newO {g N2 : Nat} {cs : Array Value} (h : PlJ w gn gm lm H M AO N ps j vI inn wr) (hk : Old wr w') (hg : w'.heap[g]? = some (.cells cs 48 (0, 0))) (hs : cs.size = N2 * 2) (hn : wr.heap.size ≤ g) : PlJ w gn gm lm H M (some ⟨g, 0, none⟩) N2 ps 0 vI inn w' := by
  have h' := h.more hk
  have hz := h.old.size
  exact ⟨h'.t, h.hn, h'.old, h'.m, h.il, .inr ⟨g, cs, rfl, hg, hs, by omega, fun e => by have := h.t.lt g e; omega, fun i _ h => by omega⟩, h.new⟩
/-- One inner list more. -/
theorem PlJ.push {v v2 : Value} {bs : List UInt8} (h : PlJ w gn gm lm H M AO N ps j vI inn wr) (hM : inn.length < M) (hj : j = inn.length) (K1 : Old wr w1) (hne : bs ≠ []) (hv : OwnB (fun k => wr.heap.size ≤ k) w1 v bs) (hg : w1.grownBy w4 vI.ownBlock) (hown : w4.ownsRow 0 46 1 v2 (inn.length + 1) (inn ++ [v])) (hat : v2.ownBlock = vI.ownBlock ∨ v2.ownBlock = some w1.heap.size) :
    PlJ w gn gm lm H M AO N ps j v2 (inn ++ [v]) w4 ∧ Keeps (fun k => vI.ownBlock ≠ some k) wr w4 := by
  obtain ⟨a, b, c⟩ := h.m.push K1 hne hv hg hown hat
  have hz := h.old.size
  refine ⟨⟨h.t.keep (b.mono fun k _ hk e => (h.new k (.inl e)).2 hk), h.hn, h.old.trans b fun k hk _ e => by have := (h.new k (.inl e)).1; omega, a, by rw [List.length_append]; exact hM, ?_, fun k hk => ?_⟩, b⟩
  · have ho := h.out.keep b (fun g cs hg _ _ e => own_ne_heap h.m.i hg (by decide) e) (fun i g _ hi e => by obtain ⟨x, hx, hxo⟩ := bind_mem hi; exact h.m.ne hx hxo e)
    rcases ho with ho | ⟨gO, cs, e, hg, hs, hb, hH, hl⟩
    · exact .inl ho
    · refine .inr ⟨gO, cs, e, hg, hs, hb, hH, fun i hi hij => ?_⟩
      obtain ⟨g, c, h1, h2, h3, h4, h5⟩ := hl i hi hij
      exact ⟨g, c, h1, h2, h3, h4, by rw [List.getElem?_append_left (by omega)]; exact h5⟩
  · rcases c k hk with h' | h'
    · exact h.new k h'
    · exact ⟨by omega, fun e => by have := h.t.lt k e; omega⟩
/-- A larger inner list at j. -/
theorem PlJ.setI {v : Value} {bs : List UInt8} {gI cI n : Nat} (h : PlJ w gn gm lm H M AO N ps j (.slice (some ⟨gI, 0, none⟩) n cI) inn wr) (hj : j < inn.length) (hn : n = inn.length) (K1 : Old wr w1) (hne : bs ≠ []) (hv : OwnB (fun k => wr.heap.size ≤ k) w1 v bs) :
    PlJ w gn gm lm H M AO N ps j (.slice (some ⟨gI, 0, none⟩) n cI) (inn.set j v) (w1.setCell ⟨gI, j, none⟩ v) ∧ Keeps (· ≠ gI) wr (w1.setCell ⟨gI, j, none⟩ v) := by
  obtain ⟨a, b, c⟩ := h.m.setI hj hn K1 hne hv
  have hz := h.old.size
  have hgI : InnF (.slice (some ⟨gI, 0, none⟩) n cI) inn gI := .inl rfl
  refine ⟨⟨h.t.keep (b.mono fun k _ hk e => (h.new gI hgI).2 (e ▸ hk)), h.hn, h.old.trans b fun k hk _ e => by have := (h.new gI hgI).1; omega, a, by rw [List.length_set]; exact h.il, ?_, fun k hk => ?_⟩, b⟩
  · have ho := h.out.keep b (fun g cs hg _ _ e => own_ne_heap h.m.i hg (by decide) (by rw [e]; rfl)) (fun i g _ hi e => by obtain ⟨x, hx, hxo⟩ := bind_mem hi; exact h.m.ne hx hxo (by rw [e]; rfl))
    rcases ho with ho | ⟨gO, cs, e, hg, hs, hb, hH, hl⟩
    · exact .inl ho
    · refine .inr ⟨gO, cs, e, hg, hs, hb, hH, fun i hi hij => ?_⟩
      obtain ⟨g, c, h1, h2, h3, h4, h5⟩ := hl i hi hij
      exact ⟨g, c, h1, h2, h3, h4, by rw [List.getElem?_set_ne (by omega)]; exact h5⟩
  · rcases c k hk with h' | h'
    · exact h.new k h'
    · exact ⟨by omega, fun e => by have := h.t.lt k e; omega⟩
/-- The j-th packet is laid. -/
theorem PlJ.lay {g n c gO : Nat} {zs : List UInt8} (h : PlJ w gn gm lm H M (some ⟨gO, 0, none⟩) N ps j vI inn wr) (hj : j < ps.length) (hjN : j < N) (hi : inn[j]? = some (.slice (some ⟨g, 0, none⟩) n c)) (K : Keeps (· ≠ g) wr w') (hr : Row1 w' 5 g c (zs.map bv)) (hz : zs.length = n) (hn : 0 < n) (hl : n ≤ 281474976710656) (hc : c ≤ maxLen) (hnc : n ≤ c) (hp : zs.take ps[j].2.length = ps[j].2) (hpl : ps[j].2.length ≤ n) :
    PlJ w gn gm lm H M (some ⟨gO, 0, none⟩) N ps (j + 1) vI inn ((w'.setCell ⟨gO, j * 2, none⟩ (.int .u32 ps[j].1)).setCell ⟨gO, j * 2 + 1, none⟩ (.slice (some ⟨g, 0, none⟩) ps[j].2.length c)) := by
  have hm := h.m.fill hi K hr hz hn hl hc
  obtain ⟨hil, hie⟩ := List.getElem?_eq_some_iff.1 hi
  have hmem : (Value.slice (some ⟨g, 0, none⟩) n c) ∈ inn := hie ▸ List.getElem_mem hil
  have hgF : InnF vI inn g := .inr ⟨_, hmem, rfl⟩
  have KS : Keeps (· ≠ gO) w' ((w'.setCell ⟨gO, j * 2, none⟩ (.int .u32 ps[j].1)).setCell ⟨gO, j * 2 + 1, none⟩ (.slice (some ⟨g, 0, none⟩) ps[j].2.length c)) := ((Keeps.refl _ _).setCell (fun _ h => h rfl) _).setCell (fun _ h => h rfl) _
  have ho := h.out.keep K (fun x cs hx _ _ e => by
    obtain ⟨bs, _, hb⟩ := h.m.each _ hmem
    subst e
    exact own_ne_heap hb.row hx (by decide) rfl) (fun i x hij hx e => by
    subst e
    have hilt : i < inn.length := by omega
    rw [List.getElem?_eq_getElem hilt] at hx
    exact List.pairwise_iff_getElem.1 h.m.dis i j hilt hil hij x hx (by rw [hie]; rfl))
  rcases ho with ⟨e, _⟩ | ⟨gO', cs, e, hg, hs, hb, hH, hla⟩
  · omega
  injection e with e
  injection e with e _ _
  subst e
  have hnO : ¬ InnF vI inn gO := hm.other hg (by decide) (by decide)
  have hnO' : gO ≠ g := fun e => hnO (by rw [e]; exact hgF)
  have hz0 := h.old.size
  refine ⟨(h.t.keep (K.mono fun k _ hk e => (h.new g hgF).2 (e ▸ hk))).keep (KS.mono fun k _ hk e => hH (e ▸ hk)), h.hn, (h.old.trans K fun k hk _ e => by have := (h.new g hgF).1; omega).trans KS fun k hk _ e => by omega, hm.keep KS fun k hk e => hnO (e ▸ hk), h.il, .inr ⟨gO, (cs.setIfInBounds (j * 2) (.int .u32 ps[j].1)).setIfInBounds (j * 2 + 1) (.slice (some ⟨g, 0, none⟩) ps[j].2.length c), rfl, ?_, by simpa using hs, hb, hH, fun i hi' hij => ?_⟩, h.new⟩
  · rw [heap_setCell (heap_setCell hg _)]
  · by_cases hij2 : i = j
    · subst hij2
      refine ⟨g, c, ?_, ?_, by omega, ?_, by rw [hi]; rfl⟩
      · rw [Array.getElem?_setIfInBounds_ne (by omega), Array.getElem?_setIfInBounds_self_of_lt (by omega)]
      · rw [Array.getElem?_setIfInBounds_self_of_lt (by simpa using (by omega : i * 2 + 1 < cs.size))]
      · have hb' := hr.btsT (n := ps[i].2.length) (by omega) (by omega)
        rw [hp] at hb'
        exact hb'.keep (KS.mono fun k _ (e : k = g) => by rw [e]; exact Ne.symm hnO')
    · obtain ⟨g', c', h1, h2, h3, h4, h5⟩ := hla i hi' (by omega)
      refine ⟨g', c', ?_, ?_, h3, ?_, h5⟩
      · rw [Array.getElem?_setIfInBounds_ne (by omega), Array.getElem?_setIfInBounds_ne (by omega)]; exact h1
      · rw [Array.getElem?_setIfInBounds_ne (by omega), Array.getElem?_setIfInBounds_ne (by omega)]; exact h2
      · refine h4.keep (KS.mono fun k _ (e : k = g') => ?_)
        rw [e]
        intro e'
        obtain ⟨x, hx, hxo⟩ := bind_mem h5
        exact hnO (.inr ⟨x, hx, by rw [← e']; exact hxo⟩)
/-- All lie: they read. -/
theorem PlJ.pks (h : PlJ w gn gm lm H M AO N ps j vI inn wr) (hj : j = ps.length) (hN : ps.length ≤ N) (hl : ps.length ≤ 281474976710656) : Pks (fun k => k < wr.heap.size ∧ ¬ H k) wr AO ps := by
  refine ⟨hl, fun hne => ?_⟩
  have h0 := List.length_pos_iff.2 hne
  rcases h.out with ⟨e, _⟩ | ⟨gO, cs, e, hg, hs, hb, hH, hla⟩
  · omega
  refine ⟨gO, 0, e, ⟨lt_of_heap hg, hH⟩, fun i hi => ?_⟩
  obtain ⟨g, c, h1, h2, h3, h4, h5⟩ := hla i hi (by omega)
  refine ⟨_, c, by rw [Nat.zero_add, cell_of_heap hg]; exact h1, by rw [Nat.zero_add, cell_of_heap hg]; exact h2, h3, h4.mono fun k hk e' => ?_⟩
  have e'' : k = g := e'
  obtain ⟨x, hx, hxo⟩ := bind_mem h5
  exact ⟨hk, (h.new k (.inr ⟨x, hx, by rw [e'']; exact hxo⟩)).2⟩
/-- Behind plays. -/
theorem PlJ.plays {e : Ending} (h : PlJ w gn gm lm H M AO N ps j vI inn wr) (hk : Old wr w1) (hp : PostPlays H w1 gn gm lm e w') : ∃ H', PlJ w gn gm lm H' M AO N [] 0 vI inn w' := by
  obtain ⟨_, H', hT, hH, k9⟩ := hp
  have h1 := h.more hk
  have hz := h1.old.size
  have hn : ∀ k, k < w1.heap.size → ¬ H k → ¬ H' k := fun k hk hh h' => by
    rcases hH k h' with h' | h'
    · exact hh h'
    · omega
  refine ⟨H', hT, fun k hk => ?_, h1.old.trans k9 fun k hk _ hh => by have := h.hn k hh; omega, h1.m.keep k9 fun k hk => (h1.new k hk).2, h.il, ?_, fun k hk => ⟨(h1.new k hk).1, hn k (h1.m.lt hk) (h1.new k hk).2⟩⟩
  · rcases hH k hk with h' | h'
    · exact h.hn k h'
    · omega
  · rcases (h1.out.zero (qs := []) (inn2 := inn)).keep k9 (fun g cs _ _ hh => hh) (fun i g hi => by omega) with ho | ⟨gO, cs, e, hg, hs, hb, hH, hla⟩
    · exact .inl ho
    · have hO := h1.out
      rcases hO with ⟨_, e2⟩ | ⟨gO2, cs2, e2, hg2, _⟩
      · rw [e] at e2; simp at e2
      · have e3 := e.symm.trans e2
        injection e3 with e3
        injection e3 with e3 _ _
        exact .inr ⟨gO, cs, e, hg, hs, hb, hn gO (by rw [e3]; exact lt_of_heap hg2) hH, fun i _ h => by omega⟩
end
end Go.Proofs.Ytgnndggbjipioaa
