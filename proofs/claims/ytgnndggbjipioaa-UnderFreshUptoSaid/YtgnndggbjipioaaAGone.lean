/- weftlaw18.clone, gone: a list of its own; what is left when one packet is gone. Conditions: the lists can be read. -/
import Derived.Test.YtgnndggbjipioaaAPlays
namespace Go.Proofs.Ytgnndggbjipioaa
open Go.RowKit

/-- A part of a list of packets. -/
theorem Pks.part {S : Nat → Prop} {w : World} {A X : Option Addr} {ps : List Pk} (h : Pks S w A ps) {i n : Nat} (hn : i + n ≤ ps.length)
    (hX : i < ps.length → ∀ b o, A = some ⟨b, o, none⟩ → X = some ⟨b, o + i * 2, none⟩) : Pks S w X ((ps.drop i).take n) := by
  have hl := h.1
  refine ⟨by simp; omega, fun hne => ?_⟩
  have hi : i < ps.length := by
    apply Nat.lt_of_not_le
    intro hle
    apply hne
    rw [List.drop_eq_nil_of_le hle, List.take_nil]
  obtain ⟨b, o, hA, hs, hc⟩ := h.2 (by rintro rfl; simp at hi)
  refine ⟨b, o + i * 2, hX hi b o hA, hs, fun k hk => ?_⟩
  simp at hk
  obtain ⟨A', c', h0, h1, h2, h3⟩ := hc (i + k) (by omega)
  refine ⟨A', c', ?_⟩
  simp only [List.getElem_take, List.getElem_drop]
  have e : o + i * 2 + k * 2 = o + (i + k) * 2 := by omega
  rw [e]
  exact ⟨h0, h1, h2, h3⟩

theorem sents_len (w : World) (S T : Nat → Prop) (A B : Option Addr) (c d n m : Nat) (xs ys : List Pk) (hn : n = xs.length) (hm : m = ys.length) (ha : Pks S w A xs) (hb : Pks T w B ys) (t : Bool) (ht : decide (xs = ys) = t) :
    Calls Try.prog 33 #[.slice A n c, .slice B m d] w (PostSame w t) := by
  subst hn hm ht
  exact sents_any w S T A B c d xs ys ha hb

set_option maxHeartbeats 1000000 in
theorem gone_any (w : World) (S T : Nat → Prop) (A B : Option Addr) (c d j : Nat) (xs ys : List Pk) (ha : Pks S w A xs) (hb : Pks T w B ys) (hc : xs.length ≤ c) (hd : ys.length ≤ d) (hj : j < xs.length) (he : ys = xs.eraseIdx j) :
    Calls Try.prog 50 #[.slice A xs.length c, .slice B ys.length d, .int .i64 j] w (PostSame w true) := by
  have hal := ha.1
  have hlen : ys.length = xs.length - 1 := by subst he; rw [List.length_eraseIdx]; simp [hj]
  have e1 : (xs.drop 0).take j = (ys.drop 0).take j := by
    subst he
    rw [List.eraseIdx_eq_take_drop_succ, List.drop_zero, List.drop_zero, List.take_append_of_le_length (by simp; omega), List.take_take, Nat.min_self]
  have e2 : (xs.drop (j + 1)).take (xs.length - (j + 1)) = (ys.drop j).take (ys.length - j) := by
    rw [List.take_of_length_le (by simp), List.take_of_length_le (by simp)]
    have hn : (xs.take j).drop j = [] := List.drop_eq_nil_of_le (by rw [List.length_take]; omega)
    rw [he, List.eraseIdx_eq_take_drop_succ, List.drop_append, hn, List.nil_append, List.length_take, Nat.min_eq_left (by omega), Nat.sub_self, List.drop_zero]
  obtain ⟨b, o, rfl, hs, hcells⟩ := ha.2 (by rintro rfl; simp at hj)
  clear he
  have i1 : ((ys.length : Int) == IntKind.i64.wrap ((xs.length : Int) - 1)) = true := by rw [beq_iff_eq, IntKind.wrap_i64]; omega
  have i2 : (0 : Int) ≤ (j : Int) := by omega
  have i3 : IntKind.i64.wrap ((j : Int) + 1) = (j : Int) + 1 := by rw [IntKind.wrap_i64]; omega
  have i4 : ((j : Int) + 1).toNat = j + 1 := by omega
  have i5 : (0 : Int) ≤ (j : Int) + 1 := by omega
  have i6 : j ≤ xs.length := by omega
  have i7 : j ≤ ys.length := by omega
  have i8 : j ≤ c := by omega
  have i9 : j ≤ d := by omega
  have i10 : j + 1 ≤ xs.length := by omega
  have i11 : (j : Int) + 1 ≤ (xs.length : Int) := by omega
  have i12 : (j : Int) ≤ (ys.length : Int) := by omega
  have HL := hid hlen; clear hlen
  go_enter Try.func50, Try.ntmps50
  go_wp2
  refine wp_region_plan (fun _ => True) (List.replicate 13 true ++ [false] ++ List.replicate 9 true ++ [false, true, true]) (by kernel_rfl) (by kernel_rfl) trivial ?_
  iterate 13 (refine plan_take (v := ?_) (by rfl) (fun w' hS => ?_) ?_; rotate_left 1; (go_simp <;> (try rw [if_pos (by omega)]) <;> (try with_reducible rfl)); (simp only [Act.put, List.setIfInBounds_toArray, List.set_cons_zero, List.set_cons_succ]))
  refine plan_loud (by rfl) (fun K hK => ?_)
  go_wp2_with (go_at_call 33; refine (sents_len _ S T _ _ _ _ _ _ ((xs.drop 0).take j) ((ys.drop 0).take j) (by simp; omega) (by simp; omega) (Pks.part (ha.keep ((Keeps.refl _ _).drewN _)) (by omega) (fun _ _ _ e => by cases e; rfl)) (Pks.part (hb.keep ((Keeps.refl _ _).drewN _)) (by omega) (fun _ _ _ e => by rw [e]; rfl)) true (decide_eq_true e1)).mono ?_)
  rintro e w1 ⟨rfl, n1, rfl⟩
  refine hK _ _ trivial ?_
  clear hK K
  iterate 9 (refine plan_take (v := ?_) (by rfl) (fun w' hS => ?_) ?_; rotate_left 1; (go_simp <;> (try rw [if_pos (by omega)]) <;> (try with_reducible rfl)); (simp only [Act.put, List.setIfInBounds_toArray, List.set_cons_zero, List.set_cons_succ]))
  refine plan_loud (by rfl) (fun K hK => ?_)
  obtain ⟨X, hX⟩ : ∃ X, X = (if c = j + 1 then (some ⟨b, o, none⟩ : Option Addr) else some ⟨b, o + (j + 1) * 2, none⟩) := ⟨_, rfl⟩
  obtain ⟨Y, hY⟩ : ∃ Y, Y = (if d = j then B else Option.map (fun x => x.add (j * 2)) B) := ⟨_, rfl⟩
  rw [← hX, ← hY]
  have pX : ∀ w', Pks S w' (some ⟨b, o, none⟩) xs → Pks S w' X ((xs.drop (j + 1)).take (xs.length - (j + 1))) := fun w' h => h.part (by omega) fun hlt b' o' e => by
    rw [hX, if_neg (by omega)]
    cases e
    rfl
  have pY : ∀ w', Pks T w' B ys → Pks T w' Y ((ys.drop j).take (ys.length - j)) := fun w' h => h.part (by omega) fun hlt b' o' e => by
    rw [hY, if_neg (by omega), e]
    simp [Addr.add_lit]
  have PX := hid pX; have PY := hid pY
  clear pX pY hX hY
  go_wp2_with (go_at_call 33; refine (sents_len _ S T _ _ _ _ _ _ ((xs.drop (j + 1)).take (xs.length - (j + 1))) ((ys.drop j).take (ys.length - j)) (by simp) (by simp) (PX.out _ (ha.keep ((Keeps.refl _ _).drewN _))) (PY.out _ (hb.keep ((Keeps.refl _ _).drewN _))) true (decide_eq_true e2)).mono ?_)
  rintro e w1 ⟨rfl, n2, rfl⟩
  refine hK _ _ trivial ?_
  clear hK K
  iterate 2 (refine plan_take (v := ?_) (by rfl) (fun w' hS => ?_) ?_; rotate_left 1; (go_simp <;> (try rw [if_pos (by omega)]) <;> (try with_reducible rfl)); (simp only [Act.put, List.setIfInBounds_toArray, List.set_cons_zero, List.set_cons_succ]))
  refine plan_tail ?_
  go_wp2
  refine NoPanic.normal ?_
  go_wp2
  go_ret
  exact ⟨rfl, _, (World.drewN_drewN ..).symm⟩

/-- ahead of round k of clone -/
def InAOwn (w : World) (bs : List UInt8) (k : Nat) (v : Value) (wr : World) : Prop :=
  OwnB (fun k => w.heap.size ≤ k) wr v (bs.take k) ∧ Old w wr

theorem inaown_step {w w1 w2 : World} {k : Nat} {bs : List UInt8} {v v2 : Value} (h : InAOwn w bs k v w1) (hk : k < bs.length) (hl : bs.length ≤ 281474976710656)
    (hown : w2.ownsRow 0 5 1 v2 ((bs.take k).length + 1) ((bs.take k).map bv ++ [bv bs[k]])) (hg : (w1.alloc (.cells #[bv bs[k]] 5)).grownBy w2 v.ownBlock)
    (hat : v2.ownBlock = v.ownBlock ∨ v2.ownBlock = some (w1.alloc (.cells #[bv bs[k]] 5)).heap.size) : InAOwn w bs (k + 1) v2 w2 := by
  obtain ⟨ho, hold⟩ := h
  have K : Keeps (fun k => v.ownBlock ≠ some k) w1 w2 := ((Keeps.refl _ w1).alloc _).grown hg (fun k _ h hn => hn h)
  have e : bs.take (k + 1) = bs.take k ++ [bs[k]] := List.take_succ_eq_append_getElem hk
  have hs := hold.size
  refine ⟨⟨by rw [e, List.length_append, List.map_append]; exact hown, fun b hb => ?_, by simp; omega⟩, hold.trans K fun b hb _ hbb => ?_⟩
  · rcases hat with e | e
    · exact ho.foot b (e ▸ hb)
    · rw [e] at hb; injection hb with hb; simp at hb; omega
  · have := ho.foot b hbb; omega

def PostAOwn (w : World) (bs : List UInt8) (e : Ending) (w' : World) : Prop := ∃ v, e = .returned v ∧ OwnB (fun k => w.heap.size ≤ k) w' v bs ∧ Old w w'

set_option maxHeartbeats 1000000 in
theorem aown_any (w : World) (S : Nat → Prop) (A : Option Addr) (c : Nat) (bs : List UInt8) (hr : Bts S w A bs) (hlen : bs.length ≤ 65535) :
    Calls Try.prog 34 #[.slice A bs.length c] w (PostAOwn w bs) := by
  have hl := hr.1
  go_enter Try.func34, Try.ntmps34
  go_wp2
  go_loopw [3, 4] (fun v i wr => ∃ k : Nat, i = .int .i64 k ∧ k ≤ bs.length ∧ InAOwn w bs k v wr) (fun _ i _ => bs.length - (intOf i).toNat)
  case atStart =>
    exact ⟨0, rfl, Nat.zero_le _, by simpa using OwnB.nil _ _, Keeps.refl _ _⟩
  case round =>
    obtain ⟨k, rfl, hk, hin⟩ := hrel
    obtain ⟨ho, hold⟩ := id hin
    obtain ⟨VA, vc, hv, _, _⟩ := ho.slice
    rw [List.length_take, Nat.min_eq_left hk] at hv
    subst hv
    by_cases hlt : k < bs.length
    · obtain ⟨b, o, rfl, hsb, hc⟩ := (hr.keep (hold.old S)).at_ hlt
      have hap := ho.row.alloc (.cells #[bv bs[k]] 5)
      have hkl : (bs.take k).length ≤ 65535 := by simp; omega
      go_wp2_with (at_builtin; refine wpList_append_ex _ (by rfl) _ _ 46 5 (by rfl) Try.underlying46 info5 (by rfl) (by omega) (by rfl) hap (some ⟨wr.heap.size, 0, none⟩) 1 1 [bv bs[k]] (by rfl) (by rfl) (fun _ => ⟨_, rfl, World.news_of_block (heap_alloc_new _ _)⟩) (bv_one1 _) (by omega) (by unfold maxLen; omega) ?_; intro v2 w2 hown2 hgrow2 hat2)
      exact ⟨⟨k + 1, by go_num, by omega, inaown_step hin hlt hr.1 hown2 hgrow2 hat2⟩, by simp [intOf]; omega⟩
    · go_wp2
      obtain rfl : k = bs.length := by omega
      rw [List.take_length] at ho
      go_ret
      exact ⟨_, rfl, ho, hold⟩

end Go.Proofs.Ytgnndggbjipioaa
