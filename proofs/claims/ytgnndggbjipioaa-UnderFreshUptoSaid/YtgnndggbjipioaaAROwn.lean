/- weftref18: own, there, New: what each answers. Conditions: the packet's bytes can be read; the net stands whole at its block. -/
import Derived.Test.YtgnndggbjipioaaAUList
namespace Go.Proofs.Ytgnndggbjipioaa
open Go.RowKit

/-- ahead of round k of own -/
def InOwn (w : World) (t : Int) (A : Option Addr) (c : Nat) (bs : List UInt8) (k : Nat) (v : Value) (wr : World) : Prop :=
  OwnB (fun k => w.heap.size + 2 ≤ k) wr v (bs.take k) ∧ Old w wr ∧ wr.heap[w.heap.size]? = some (.cells #[.int .u32 t, .slice A bs.length c] 48 (0, 0)) ∧
    wr.heap[w.heap.size + 1]? = some (.cells #[.int .u32 0, .slice none 0 0] 48 (0, 0))

theorem bv_one1 (b : UInt8) : ∀ u ∈ [bv b], u.oneCell' = true := by
  intro u hu
  obtain rfl : u = bv b := by simpa using hu
  rfl

theorem inown_step {w w1 w2 : World} {t : Int} {A : Option Addr} {c k : Nat} {bs : List UInt8} {v v2 : Value} (h : InOwn w t A c bs k v w1) (hk : k < bs.length) (hl : bs.length ≤ 281474976710656)
    (hown : w2.ownsRow 0 5 1 v2 ((bs.take k).length + 1) ((bs.take k).map bv ++ [bv bs[k]])) (hg : (w1.alloc (.cells #[bv bs[k]] 5)).grownBy w2 v.ownBlock)
    (hat : v2.ownBlock = v.ownBlock ∨ v2.ownBlock = some (w1.alloc (.cells #[bv bs[k]] 5)).heap.size) : InOwn w t A c bs (k + 1) v2 w2 := by
  obtain ⟨ho, hold, h0, h1⟩ := h
  have K : Keeps (fun k => v.ownBlock ≠ some k) w1 w2 := ((Keeps.refl _ w1).alloc _).grown hg (fun k _ h hn => hn h)
  have e : bs.take (k + 1) = bs.take k ++ [bs[k]] := List.take_succ_eq_append_getElem hk
  have hs := lt_of_heap h1
  refine ⟨⟨by rw [e, List.length_append, List.map_append]; exact hown, fun b hb => ?_, by simp; omega⟩, hold.trans K fun b hb _ hbb => ?_, K.heap h0 fun hbb => ?_, K.heap h1 fun hbb => ?_⟩
  · rcases hat with e | e
    · exact ho.foot b (e ▸ hb)
    · rw [e] at hb; injection hb with hb; simp at hb; omega
  · have := ho.foot b hbb; omega
  · have := ho.foot _ hbb; omega
  · have := ho.foot _ hbb; omega

set_option maxHeartbeats 1000000 in
theorem rown_any (w : World) (S : Nat → Prop) (t : Int) (A : Option Addr) (c : Nat) (bs : List UInt8) (hr : Bts S w A bs) (hlen : bs.length ≤ 65535) :
    Calls Try.prog 55 #[.agg #[.int .u32 t, .slice A bs.length c]] w (PostClone w t bs) := by
  go_enter Try.func55, Try.ntmps55
  go_wp2
  go_loopw [3, 4] (fun v i wr => ∃ k : Nat, i = .int .i64 k ∧ k ≤ bs.length ∧ InOwn w t A c bs k v wr) (fun _ i _ => bs.length - (intOf i).toNat)
  case atStart =>
    refine ⟨0, rfl, Nat.zero_le _, by simpa using OwnB.nil _ _, ((Keeps.refl _ _).alloc _).alloc _, ?_, ?_⟩
    · rw [heap_at, if_neg (by simp), heap_at, if_pos rfl]
    · rw [heap_at, if_pos (by simp)]
  case round =>
    obtain ⟨k, rfl, hk, hin⟩ := hrel
    obtain ⟨ho, hold, b0, b1⟩ := id hin
    obtain ⟨VA, vc, hv, _, _⟩ := ho.slice
    rw [List.length_take, Nat.min_eq_left hk] at hv
    subst hv
    have c0 : wr.cell? ⟨w.heap.size, 0, none⟩ = some (.int .u32 t) := cell_of_heap b0
    have c1 : wr.cell? ⟨w.heap.size, 1, none⟩ = some (.slice A bs.length c) := cell_of_heap b0
    have d0 : wr.cell? ⟨w.heap.size + 1, 0, none⟩ = some (.int .u32 0) := cell_of_heap b1
    have d1 : wr.cell? ⟨w.heap.size + 1, 1, none⟩ = some (.slice none 0 0) := cell_of_heap b1
    have f0 := frozen_of_heap (i := 0) b1
    have f1 := frozen_of_heap (i := 1) b1
    by_cases hlt : k < bs.length
    · obtain ⟨b, o, rfl, hsb, hc⟩ := (hr.keep (hold.old S)).at_ hlt
      have hap := ho.row.alloc (.cells #[bv bs[k]] 5)
      have hkl : (bs.take k).length ≤ 65535 := by simp; omega
      clear d0 d1 f0 f1 b0 b1
      go_wp2_with (at_builtin; refine wpList_append_ex _ (by rfl) _ _ 46 5 (by rfl) Try.underlying46 info5 (by rfl) (by omega) (by rfl) hap (some ⟨wr.heap.size, 0, none⟩) 1 1 [bv bs[k]] (by rfl) (by rfl) (fun _ => ⟨_, rfl, World.news_of_block (heap_alloc_new _ _)⟩) (bv_one1 _) (by omega) (by unfold maxLen; omega) ?_; intro v2 w2 hown2 hgrow2 hat2)
      exact ⟨⟨k + 1, by go_num, by omega, inown_step hin hlt hr.1 hown2 hgrow2 hat2⟩, by simp [intOf]; omega⟩
    · go_wp2
      obtain rfl : k = bs.length := by omega
      rw [List.take_length] at ho
      refine bodyPost_ret (v := .agg #[.int .u32 t, .slice VA bs.length vc]) (by simp [results, Try.results55, go_sem, d0, d1]) rfl ⟨_, rfl, ?_, ?_⟩
      · exact (ho.keep (((Keeps.refl _ _).setCell (fun _ h => by simp at h) _).setCell (fun _ h => by simp at h) _)).mono (fun k _ h => by omega)
      · exact (hold.setCell (fun h => by simp at h; omega) _).setCell (fun h => by simp at h; omega) _

set_option maxHeartbeats 400000 in
theorem rthere_any (w : World) (g n c : Nat) (A : Option Addr) (i : Int) (h1 : w.cell? ⟨g, 0, none⟩ = some (.slice A n c)) :
    Calls Try.prog 54 #[.pointer (some ⟨g, 0, none⟩), .int .i64 i] w fun e w' => e = .returned (.bool (decide (0 ≤ i) && decide (i < n))) ∧ w = w' := by
  by_cases h0 : 0 ≤ i
  all_goals
    go_enter Try.func54, Try.ntmps54
    go_wp2
    go_ret
    refine ⟨?_, rfl⟩
    simp [h0]
    try omega

theorem rthere_no (w : World) (g n c : Nat) (A : Option Addr) (i : Int) (h1 : w.cell? ⟨g, 0, none⟩ = some (.slice A n c)) (hi : ¬ (0 ≤ i ∧ i < n)) :
    Calls Try.prog 54 #[.pointer (some ⟨g, 0, none⟩), .int .i64 i] w fun e w' => e = .returned (.bool false) ∧ w = w' := by
  have hd : (decide (0 ≤ i) && decide (i < (n : Int))) = false := by
    rw [← Bool.decide_and]; exact decide_eq_false hi
  have := rthere_any w g n c A i h1
  rwa [hd] at this

def PostRNew (lim : Int) (w : World) (e : Ending) (w' : World) : Prop :=
  Old w w' ∧ if 1 ≤ lim ∧ lim ≤ 4096 then e = .returned (.tuple #[.pointer (some ⟨w.heap.size, 0, none⟩), .int .i64 0]) ∧ RNet (fun k => k = w.heap.size) w' w.heap.size lim.toNat (.slice none 0 0) []
    else e = .returned (.tuple #[.pointer none, .int .i64 1])

set_option maxHeartbeats 400000 in
theorem rnew_any (w : World) (lim : Int) : Calls Try.prog 44 #[.int .i64 lim] w (PostRNew lim w) := by
  by_cases h1 : lim < 1
  · go_enter Try.func44, Try.ntmps44
    go_wp2
    go_ret2
    exact ⟨Keeps.refl _ _, by rw [if_neg (by omega)]; rfl⟩
  · by_cases h2 : 4096 < lim
    · go_enter Try.func44, Try.ntmps44
      go_wp2
      go_ret2
      exact ⟨Keeps.refl _ _, by rw [if_neg (by omega)]; rfl⟩
    · go_enter Try.func44, Try.ntmps44
      go_wp2
      go_ret2
      refine ⟨(Keeps.refl _ _).alloc _, ?_⟩
      rw [if_pos (by omega)]
      refine ⟨rfl, ?_, ⟨World.ownsRow_nil _ _ _ _, by simp, by simp, by simp [Value.ownBlock]⟩, rfl, by simp, by omega, by simp, by simp⟩
      rw [heap_at, if_pos rfl, show ((lim.toNat : Nat) : Int) = lim by omega]

theorem row2_snoc (q : List (Pk × Value)) (x : Pk × Value) : row2 (q ++ [x]) = row2 q ++ [.int .u32 x.1.1, x.2] := by rw [row2_append]; rfl

/-- ahead of round k of without -/
def InWo (w : World) (q : List (Pk × Value)) (j k : Nat) (v : Value) (wr : World) : Prop :=
  wr.ownsRow 0 48 2 v ((q.take k).eraseIdx j).length (row2 ((q.take k).eraseIdx j)) ∧ (∀ b, v.ownBlock = some b → w.heap.size ≤ b) ∧ Old w wr

theorem inwo_skip {w wr : World} {q : List (Pk × Value)} {j : Nat} {v : Value} (h : InWo w q j j v wr) (hj : j < q.length) : InWo w q j (j + 1) v wr := by
  have e : (q.take (j + 1)).eraseIdx j = (q.take j).eraseIdx j := by
    have hl : (q.take j).length = j := by simp; omega
    rw [List.take_succ_eq_append_getElem hj, List.eraseIdx_append_of_length_le (by omega), hl, Nat.sub_self, List.eraseIdx_of_length_le (show (q.take j).length ≤ j by omega)]
    simp
  unfold InWo at *
  rw [e]
  exact h

theorem inwo_step {w wr w2 : World} {q : List (Pk × Value)} {j k : Nat} {v v2 : Value} {o : Obj} (h : InWo w q j k v wr) (hk : k < q.length) (hne : k ≠ j)
    (hown : w2.ownsRow 0 48 2 v2 (((q.take k).eraseIdx j).length + 1) (row2 ((q.take k).eraseIdx j) ++ [.int .u32 q[k].1.1, q[k].2])) (hg : (wr.alloc o).grownBy w2 v.ownBlock)
    (hat : v2.ownBlock = v.ownBlock ∨ v2.ownBlock = some (wr.alloc o).heap.size) : InWo w q j (k + 1) v2 w2 := by
  obtain ⟨ho, hb, hold⟩ := h
  have K : Keeps (fun k => v.ownBlock ≠ some k) wr w2 := ((Keeps.refl _ wr).alloc _).grown hg (fun k _ h hn => hn h)
  have e : (q.take (k + 1)).eraseIdx j = (q.take k).eraseIdx j ++ [q[k]] := by
    rw [List.take_succ_eq_append_getElem hk]
    rcases Nat.lt_or_ge j k with h | h
    · rw [List.eraseIdx_append_of_lt_length (by simp; omega)]
    · rw [List.eraseIdx_append_of_length_le (by simp; omega), List.eraseIdx_of_length_le (by simp; omega), List.eraseIdx_of_length_le]
      simp
      omega
  refine ⟨by rw [e, List.length_append, row2_snoc]; exact hown, fun b hbb => ?_, hold.trans K fun b hbl _ hbb => ?_⟩
  · rcases hat with e | e
    · exact hb b (e ▸ hbb)
    · rw [e] at hbb; injection hbb with hbb; simp at hbb; have := hold.size; omega
  · have := hb b hbb; omega

def PostWo (w : World) (q : List (Pk × Value)) (j : Nat) (e : Ending) (w' : World) : Prop :=
  ∃ v, e = .returned v ∧ w'.ownsRow 0 48 2 v (q.eraseIdx j).length (row2 (q.eraseIdx j)) ∧ (∀ b, v.ownBlock = some b → w.heap.size ≤ b) ∧ Old w w'

set_option maxHeartbeats 1000000 in
theorem rwithout_any (w : World) (F : Nat → Prop) (g lim : Nat) (L : Value) (q : List (Pk × Value)) (j : Nat) (hN : RNet F w g lim L q) (hj : j < q.length) :
    Calls Try.prog 56 #[.pointer (some ⟨g, 0, none⟩), .int .i64 j] w (PostWo w q j) := by
  obtain ⟨LA, lc, hLs, hlc, hlm⟩ := own_slice hN.flight.row
  subst hLs
  have hroom := hN.room
  have hmost := hN.most
  have hq : q.length ≤ 4096 := by omega
  go_enter Try.func56, Try.ntmps56
  go_wp2
  go_loopw [5, 6] (fun v i wr => ∃ k : Nat, i = .int .i64 k ∧ k ≤ q.length ∧ InWo w q j k v wr) (fun _ i _ => q.length - (intOf i).toNat)
  case atStart => exact ⟨0, rfl, Nat.zero_le _, by simpa [row2] using World.ownsRow_nil _ _ _ _, by simp [Value.ownBlock], Keeps.refl _ _⟩
  case round =>
    obtain ⟨k, rfl, hk, hin⟩ := hrel
    obtain ⟨ho, hvb, hold⟩ := id hin
    have hNr := hN.keep (hold.old F)
    have n0 := hNr.cell0
    by_cases hlt : k < q.length
    · by_cases hkj : k = j
      · subst hkj
        go_wp2
        exact ⟨⟨k + 1, by go_num, by omega, inwo_skip hin hj⟩, by simp [intOf]; omega⟩
      · have hkj' : ((k : Int) != (j : Int)) = true := by rw [bne_iff_ne]; omega
        have hkj2 : ((k : Int) == (j : Int)) = false := by rw [beq_eq_false_iff_ne]; omega
        obtain ⟨b, c, A', c', hLe, _, _, hFb, hv, h0, h1, hc', hb⟩ := hNr.flight.at_ hlt
        injection hLe with hLA _ hcc
        subst hLA
        have hone := (hNr.flight.own _ (List.getElem_mem hlt)).one
        generalize hs : q[k] = x at *
        obtain ⟨⟨t, bs⟩, v1⟩ := x
        simp only at hv h0 h1 hc' hb hone
        subst hv
        have hap := ho.alloc (.cells #[.int .u32 t, .slice A' bs.length c'] 48)
        have hel : ((q.take k).eraseIdx j).length ≤ 4096 := by
          have := List.length_eraseIdx_le (q.take k) j
          have h2 : (q.take k).length ≤ k := List.length_take_le _ _
          omega
        have HS := hid hs; clear hs hcc
        go_wp2_with (at_builtin; refine wpList_append_ex _ (by rfl) _ _ 34 48 (by rfl) Try.underlying34 info48 (by rfl) (by omega) (by rfl) hap (some ⟨wr.heap.size, 0, none⟩) 1 1 [.int .u32 t, .slice A' bs.length c'] (by rfl) (by rfl) (fun _ => ⟨_, rfl, World.news_of_block (heap_alloc_new _ _)⟩) (two_one hone) (by omega) (by unfold maxLen; omega) ?_; intro v2 w2 hown2 hgrow2 hat2)
        refine ⟨⟨k + 1, by go_num, by omega, inwo_step hin hlt hkj ?_ hgrow2 hat2⟩, by simp [intOf]; omega⟩
        rw [HS.out]; exact hown2
    · go_wp2
      go_ret
      obtain rfl : k = q.length := by omega
      rw [List.take_length] at ho
      exact ⟨_, rfl, ho, hvb, hold⟩
end Go.Proofs.Ytgnndggbjipioaa
