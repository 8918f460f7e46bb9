/- weftlaw18.put: a Put by what was in flight and what is now: it answers true. Conditions: the net stands whole; the list of what was in flight and the packets can be read. -/
import Derived.Test.YtgnndggbjipioaaANet
namespace Go.Proofs.Ytgnndggbjipioaa
open Go.RowKit

/-- The step answered true; the net stands. -/
def PostFr (F : Nat → Prop) (w : World) (g lim : Nat) (e : Ending) (w' : World) : Prop :=
  e = .returned (.bool true) ∧ ∃ F' ps', NetU F' w' g lim ps' ∧ (∀ k, F' k → F k ∨ w.heap.size ≤ k) ∧ Keeps (fun k => ¬ F k) w w'

set_option maxRecDepth 10000 in
set_option maxHeartbeats 2000000 in
theorem aput_any (w : World) (F S T : Nat → Prop) (g lim : Nat) (ps ss : List Pk) (A B : Option Addr) (c d : Nat) (hN : NetU F w g lim ps) (ha : Pks T w A ps) (hb : Pks S w B ss) (_hc : ps.length ≤ c) (hd : ss.length ≤ d)
    (hS : ∀ k, S k → k < w.heap.size ∧ ¬ F k) (hT : ∀ k, T k → k < w.heap.size ∧ ¬ F k) :
    Calls Try.prog 51 #[.pointer (some ⟨g, 0, none⟩), .slice A ps.length c, .slice B ss.length d, .int .i64 (lim : Int)] w (PostFr F w g lim) := by
  have hbl := hb.1
  have hroom := hN.room
  have hmost := hN.most
  obtain ⟨s1, s2, s3, s4, s5⟩ := putS_spec lim ss ps hroom
  have hp := put_net hN (c := d) hb hS
  generalize putS lim ps ss = r at *
  obtain ⟨k, er, now⟩ := r
  simp only at s1 s2 s3 s4 s5
  unfold PostNP at hp
  simp only at hp
  go_enter Try.func51, Try.ntmps51
  go_wp2_with fail
  refine hp.mono ?_
  rintro e w1 ⟨rfl, F1, hN1, hF1, hK1⟩
  clear hp
  go_wp2_with fail
  refine (list_net hN1).mono ?_
  rintro e w2 ⟨C, cc, rfl, hcc, hC, k2⟩
  have hK2 := hK1.trans' (k2.old _)
  have ha2 := ha.keep (hK2.mono fun j _ h => (hT j h).2)
  have hb2 := hb.keep (hK2.mono fun j _ h => (hS j h).2)
  have hnl : now.length = ps.length + k := by rw [s2]; simp; omega
  have i1 : ¬ (k : Int) < 0 := by omega
  have i2 : ¬ (k : Int) > (ss.length : Int) := by omega
  have i3 : IntKind.i64.wrap ((ps.length : Int) + (k : Int)) = (ps.length : Int) + (k : Int) := by rw [IntKind.wrap_i64]; omega
  have i4 : ((now.length : Int) != (ps.length : Int) + (k : Int)) = false := by rw [bne_eq_false_iff_eq]; omega
  have i5 : ¬ (now.length : Int) > (lim : Int) := by omega
  have HS2 := hid s2; have HS3 := hid s3; have HS4 := hid s4; have HS5 := hid s5; have HNL := hid hnl
  clear s2 s3 s4 s5 hnl
  go_wp2
  have hpl : ps.length ≤ 4096 := by omega
  have hnl : now.length ≤ 4096 := by have := HS3.out; omega
  have hle : ps.length ≤ now.length := by have := HNL.out; omega
  have j1 : ps.length ≤ cc := by omega
  have j2 : k ≤ d := by omega
  have j3 : (ps.length : Int) ≤ (now.length : Int) := by omega
  have j4 : (0 : Int) ≤ (k : Int) := by omega
  have j5 : (k : Int) ≤ (ss.length : Int) := by omega
  refine wp_region_plan (fun _ => True) (List.replicate 5 true ++ [false] ++ List.replicate 9 true ++ [false, true, true]) (by kernel_rfl) (by kernel_rfl) trivial ?_
  iterate 5 (refine plan_take (v := ?_) (by rfl) (fun w' hS => ?_) ?_; rotate_left 1; (go_simp <;> (try rw [if_pos (by omega)]) <;> (try with_reducible rfl)); (simp only [Act.put, List.setIfInBounds_toArray, List.set_cons_zero, List.set_cons_succ]))
  refine plan_loud (by rfl) (fun K hK => ?_)
  have E1 : Hid (ps = (now.drop 0).take ps.length) := hid (by rw [HS2.out]; simp)
  go_wp2_with (go_at_call 33; refine (sents_len _ T _ _ _ _ _ _ _ ps ((now.drop 0).take ps.length) rfl (by simp; omega) (ha2.keep ((Keeps.refl _ _).drewN _)) (Pks.part (hC.keep ((Keeps.refl _ _).drewN _)) (by omega) (fun _ _ _ e => by rw [e]; rfl)) true (decide_eq_true E1.out)).mono ?_)
  rintro e w3 ⟨rfl, n1, rfl⟩
  refine hK _ _ trivial ?_
  clear hK K
  iterate 9 (refine plan_take (v := ?_) (by rfl) (fun w' hS => ?_) ?_; rotate_left 1; (go_simp <;> (try rw [if_pos (by omega)]) <;> (try with_reducible rfl)); (simp only [Act.put, List.setIfInBounds_toArray, List.set_cons_zero, List.set_cons_succ]))
  refine plan_loud (by rfl) (fun K hK => ?_)
  obtain ⟨Y, hY⟩ : ∃ Y, Y = (if cc = ps.length then C else Option.map (fun x => x.add (ps.length * 2)) C) := ⟨_, rfl⟩
  rw [← hY]
  have pY : ∀ w' (T : Nat → Prop), Pks T w' C now → Pks T w' Y ((now.drop ps.length).take (now.length - ps.length)) := fun w' T h => h.part (by omega) fun hlt b' o' e => by
    rw [hY, if_neg (by omega), e]
    simp [Addr.add_lit]
  have PY := hid pY
  have e2 : (ss.drop 0).take k = (now.drop ps.length).take (now.length - ps.length) := by
    rw [List.take_of_length_le (l := now.drop ps.length) (by simp), HS2.out, List.drop_left', List.drop_zero]
    rfl
  have E2 := hid e2
  have J := hid (And.intro s1 (And.intro hnl hle))
  clear s1
  clear pY hY E1 e2 i1 i2 i3 i4 i5 j3 hroom hmost hpl hnl hle j1 j2 j4 j5
  go_wp2_with (go_at_call 33; refine (sents_len _ S _ _ _ _ _ _ _ ((ss.drop 0).take k) ((now.drop ps.length).take (now.length - ps.length)) (by simp; have := J.out; omega) (by simp) (Pks.part (hb2.keep ((Keeps.refl _ _).drewN _)) (by have := J.out; omega) (fun _ _ _ e => by rw [e]; rfl)) (PY.out _ _ (hC.keep ((Keeps.refl _ _).drewN _))) true (decide_eq_true E2.out)).mono ?_)
  rintro e w3 ⟨rfl, n2, rfl⟩
  refine hK _ _ trivial ?_
  clear hK K E2
  iterate 2 (refine plan_take (v := ?_) (by rfl) (fun w' hS => ?_) ?_; rotate_left 1; (go_simp <;> (try rw [if_pos (by omega)]) <;> (try with_reducible rfl)); (simp only [Act.put, List.setIfInBounds_toArray, List.set_cons_zero, List.set_cons_succ]))
  refine plan_tail ?_
  go_wp2
  refine NoPanic.normal ?_
  have hend : ∀ n, PostFr F w g lim (.returned (.bool true)) (w2.drewN n) := fun n => ⟨rfl, F1, now, (hN1.keep (k2.old _)).keep ((Keeps.refl _ _).drewN _), hF1, hK2.trans' ((Keeps.refl _ _).drewN _)⟩
  have HE := hid hend; clear hend
  by_cases hk : k = ss.length
  · have he : er = 0 := HS4.out hk
    subst he hk
    go_wp2
    go_ret
    exact HE.out _
  · have hk2 : k < ss.length := by omega
    obtain ⟨t1, t2⟩ := HS5.out hk2
    obtain ⟨b, o, A', c', rfl, hSb, h0, h1, h2, h3⟩ := hb2.at_ hk2
    by_cases hl : 65535 < ss[k].2.length
    · have he := t1 hl
      subst he
      generalize ss[k] = x at *
      have i6 : (x.2.length : Int) > 65535 := by omega
      have i7 : (0 : Int) ≤ (k : Int) := by omega
      have i8 : (k : Int) < (ss.length : Int) := by omega
      clear t1 t2
      go_wp2
      go_ret
      exact HE.out _
    · obtain ⟨he, hf⟩ := t2 hl
      subst he
      generalize ss[k] = x at *
      have i6 : ¬ (x.2.length : Int) > 65535 := by omega
      have i7 : (0 : Int) ≤ (k : Int) := by omega
      have i8 : (k : Int) < (ss.length : Int) := by omega
      have i9 : ((now.length : Int) == (lim : Int)) = true := by rw [beq_iff_eq]; omega
      clear t1 t2 hf
      go_wp2
      go_ret
      exact HE.out _
end Go.Proofs.Ytgnndggbjipioaa
