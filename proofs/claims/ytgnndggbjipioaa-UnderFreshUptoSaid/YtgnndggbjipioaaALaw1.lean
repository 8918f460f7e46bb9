/- weftlaw18.same, sents, begins: equality of bytes, of lists of packets; the first turn. Conditions: the lists can be read. -/
import Derived.Test.YtgnndggbjipioaaARSpoil
namespace Go.Proofs.Ytgnndggbjipioaa
open Go.RowKit

theorem take_eq_step {α : Type} {xs ys : List α} {k : Nat} (h : xs.take k = ys.take k) (ha : k < xs.length) (hb : k < ys.length) (he : xs[k] = ys[k]) : xs.take (k + 1) = ys.take (k + 1) := by
  rw [List.take_succ_eq_append_getElem ha, List.take_succ_eq_append_getElem hb, h, he]

theorem bv_ne {a b : UInt8} (h : a ≠ b) : ((a.toNat : Int) == (b.toNat : Int)) = false := by
  rw [beq_eq_false_iff_ne]
  intro e
  exact h (UInt8.toNat_inj.1 (by omega))

def PostSame (w : World) (r : Bool) (e : Ending) (w' : World) : Prop := e = .returned (.bool r) ∧ ∃ n, w.drewN n = w'

set_option maxHeartbeats 1000000 in
theorem same_any (w : World) (S T : Nat → Prop) (A B : Option Addr) (c d : Nat) (xs ys : List UInt8) (ha : Bts S w A xs) (hb : Bts T w B ys) :
    Calls Try.prog 38 #[.slice A xs.length c, .slice B ys.length d] w (PostSame w (decide (xs = ys))) := by
  have hal := ha.1
  have hbl := hb.1
  by_cases hlen : xs.length = ys.length
  · have hne : ((xs.length : Int) == (ys.length : Int)) = true := by simp [hlen]
    have hne' : ((xs.length : Int) != (ys.length : Int)) = false := by simp [hlen]
    have HL := hid hlen; clear hlen
    go_enter Try.func38, Try.ntmps38
    go_wp2
    go_loopw [5] (fun i wr => ∃ k n : Nat, i = .int .i64 k ∧ k ≤ xs.length ∧ Hid (xs.take k = ys.take k) ∧ Hid (w.drewN n = wr)) (fun i _ => xs.length - (intOf i).toNat)
    case atStart => exact ⟨0, 0, rfl, Nat.zero_le _, hid (by simp), hid rfl⟩
    case round =>
      obtain ⟨k, n, rfl, hk, hT, hW⟩ := hrel
      have hWo := hW.out
      subst hWo
      by_cases hlt : k < xs.length
      · have hltb : k < ys.length := by have := HL.out; omega
        obtain ⟨b1, o1, rfl, _, h1⟩ := ha.at_ hlt
        obtain ⟨b2, o2, rfl, _, h2⟩ := hb.at_ hltb
        have i1 : (0 : Int) ≤ (k : Int) := by omega
        have i2 : (k : Int) < (xs.length : Int) := by omega
        have i3 : (k : Int) < (ys.length : Int) := by omega
        by_cases he : xs[k] = ys[k]
        · have hq : ((xs[k].toNat : Int) != (ys[k].toNat : Int)) = false := by simp [he]
          have hq2 : ((xs[k].toNat : Int) == (ys[k].toNat : Int)) = true := by simp [he]
          have HE := hid he; clear he
          go_wp2
          go_quiet (fail)
          go_wp2
          exact ⟨⟨k + 1, n + nq, by go_num, by omega, hid (take_eq_step hT.out hlt hltb HE.out), hid rfl⟩, by simp [intOf]; omega⟩
        · have hq2 := bv_ne he
          have hq : ((xs[k].toNat : Int) != (ys[k].toNat : Int)) = true := by rw [bne, hq2]; rfl
          go_wp2
          go_quiet (fail)
          go_wp2
          go_ret
          refine ⟨?_, n + nq, (World.drewN_drewN ..).symm⟩
          rw [decide_eq_false (fun h => he (by subst h; rfl))]
          rfl
      · go_wp2
        go_ret
        refine ⟨?_, n, rfl⟩
        have hkl : k = xs.length := by omega
        have hT' := hT.out
        rw [hkl, List.take_length, List.take_of_length_le (by rw [HL.out]; exact Nat.le_refl _)] at hT'
        rw [decide_eq_true hT']
        rfl
  · have hne : ((xs.length : Int) == (ys.length : Int)) = false := by rw [beq_eq_false_iff_ne]; omega
    have hne' : ((xs.length : Int) != (ys.length : Int)) = true := by rw [bne_iff_ne]; omega
    go_enter Try.func38, Try.ntmps38
    go_wp2
    go_ret
    refine ⟨?_, 0, rfl⟩
    rw [decide_eq_false (fun h => hlen (by rw [h]))]
    rfl

theorem ne_int {a b : Int} (h : a ≠ b) : (a == b) = false := by rw [beq_eq_false_iff_ne]; exact h

set_option maxHeartbeats 1000000 in
theorem sents_any (w : World) (S T : Nat → Prop) (A B : Option Addr) (c d : Nat) (xs ys : List Pk) (ha : Pks S w A xs) (hb : Pks T w B ys) :
    Calls Try.prog 33 #[.slice A xs.length c, .slice B ys.length d] w (PostSame w (decide (xs = ys))) := by
  have hal := ha.1
  have hbl := hb.1
  by_cases hlen : xs.length = ys.length
  · have hne : ((xs.length : Int) == (ys.length : Int)) = true := by simp [hlen]
    have hne' : ((xs.length : Int) != (ys.length : Int)) = false := by simp [hlen]
    have HL := hid hlen; clear hlen
    go_enter Try.func33, Try.ntmps33
    go_wp2
    go_loopw [5] (fun i wr => ∃ k n : Nat, i = .int .i64 k ∧ k ≤ xs.length ∧ Hid (xs.take k = ys.take k) ∧ Hid (w.drewN n = wr)) (fun i _ => xs.length - (intOf i).toNat)
    case atStart => exact ⟨0, 0, rfl, Nat.zero_le _, hid (by simp), hid rfl⟩
    case round =>
      obtain ⟨k, n, rfl, hk, hT, hW⟩ := hrel
      have hWo := hW.out
      subst hWo
      by_cases hlt : k < xs.length
      · have hltb : k < ys.length := by have := HL.out; omega
        obtain ⟨b1, o1, A1, c1, rfl, _, h1, h1', _, g1⟩ := ha.at_ hlt
        obtain ⟨b2, o2, A2, c2, rfl, _, h2, h2', _, g2⟩ := hb.at_ hltb
        have i1 : (0 : Int) ≤ (k : Int) := by omega
        have i2 : (k : Int) < (xs.length : Int) := by omega
        have i3 : (k : Int) < (ys.length : Int) := by omega
        generalize hx : xs[k] = x at *
        generalize hy : ys[k] = y at *
        obtain ⟨t1, p1⟩ := x
        obtain ⟨t2, p2⟩ := y
        simp only at h1 h1' g1 h2 h2' g2
        have HX := hid hx; clear hx
        have HY := hid hy; clear hy
        by_cases he : t1 = t2
        · have hq : (t1 != t2) = false := by simp [he]
          have hq2 : (t1 == t2) = true := by simp [he]
          have HE := hid he; clear he
          have hsame : ∀ m, Calls Try.prog 38 #[.slice A1 p1.length c1, .slice A2 p2.length d] (w.drewN m) (PostSame (w.drewN m) (decide (p1 = p2))) := fun m => same_any _ S T _ _ _ _ _ _ (g1.keep ((Keeps.refl _ _).drewN _)) (g2.keep ((Keeps.refl _ _).drewN _))
          go_wp2
          refine wp_region_plan (fun w' => w'.cell? ⟨b1, o1 + k * 2, none⟩ = some (.int .u32 t1) ∧ w'.cell? ⟨b1, o1 + k * 2 + 1, none⟩ = some (.slice A1 p1.length c1) ∧ w'.cell? ⟨b2, o2 + k * 2, none⟩ = some (.int .u32 t2) ∧ w'.cell? ⟨b2, o2 + k * 2 + 1, none⟩ = some (.slice A2 p2.length c2)) (List.replicate 22 true ++ [false, true, true]) (by kernel_rfl) (by kernel_rfl) ⟨h1, h1', h2, h2'⟩ ?_
          iterate 22 (refine plan_take (v := ?_) (by rfl) (fun w' hS => ?_) ?_; rotate_left 1; (obtain ⟨s0, s1, s2, s3⟩ := hS; go_simp <;> (try rw [if_pos (by omega)]) <;> (try with_reducible rfl)); (simp only [Act.put, List.setIfInBounds_toArray, List.set_cons_zero, List.set_cons_succ]))
          refine plan_loud (by rfl) (fun K hK => ?_)
          go_wp2_with (go_at_call 38; refine (same_any _ S T A1 A2 c1 c2 p1 p2 (g1.keep ((Keeps.refl _ _).drewN _)) (g2.keep ((Keeps.refl _ _).drewN _))).mono ?_)
          rintro e w1 ⟨rfl, m, rfl⟩
          refine hK _ _ ⟨h1, h1', h2, h2'⟩ ?_
          clear hK K
          by_cases hp : p1 = p2
          · have hd : decide (p1 = p2) = true := decide_eq_true hp
            have HP := hid hp; clear hp
            rw [hd]
            iterate 2 (refine plan_take (v := ?_) (by rfl) (fun w' hS => ?_) ?_; rotate_left 1; (go_simp <;> (try with_reducible rfl)); (simp only [Act.put, List.setIfInBounds_toArray, List.set_cons_zero, List.set_cons_succ]))
            refine plan_tail ?_
            go_wp2
            refine NoPanic.normal ?_
            go_wp2
            refine ⟨⟨k + 1, n + 1 + m, by go_num, by omega, hid (take_eq_step hT.out hlt hltb (by rw [HX.out, HY.out, HE.out, HP.out])), hid rfl⟩, by simp [intOf]; omega⟩
          · have hd : decide (p1 = p2) = false := decide_eq_false hp
            rw [hd]
            iterate 2 (refine plan_take (v := ?_) (by rfl) (fun w' hS => ?_) ?_; rotate_left 1; (go_simp <;> (try with_reducible rfl)); (simp only [Act.put, List.setIfInBounds_toArray, List.set_cons_zero, List.set_cons_succ]))
            refine plan_tail ?_
            go_wp2
            refine NoPanic.normal ?_
            go_wp2
            go_ret
            refine ⟨?_, n + 1 + m, (World.drewN_drewN ..).symm⟩
            rw [decide_eq_false (fun h => hp (by have e := HX.out; subst h; rw [HY.out] at e; injection e with _ e; exact e.symm))]
            rfl
        · have hq2 := ne_int he
          have hq : (t1 != t2) = true := by rw [bne, hq2]; rfl
          go_wp2
          refine wp_region_plan (fun w' => w'.cell? ⟨b1, o1 + k * 2, none⟩ = some (.int .u32 t1) ∧ w'.cell? ⟨b2, o2 + k * 2, none⟩ = some (.int .u32 t2)) (List.replicate 25 true) (by kernel_rfl) (by kernel_rfl) ⟨h1, h2⟩ ?_
          iterate 12 (refine plan_take (v := ?_) (by rfl) (fun w' hS => ?_) ?_; rotate_left 1; (obtain ⟨s0, s2⟩ := hS; go_simp <;> (try rw [if_pos (by omega)]) <;> (try with_reducible rfl)); (simp only [Act.put, List.setIfInBounds_toArray, List.set_cons_zero, List.set_cons_succ]))
          iterate 12 (refine plan_pass (by rfl) ?_; (simp only [Act.put, List.setIfInBounds_toArray, List.set_cons_zero, List.set_cons_succ]))
          refine plan_take (v := ?_) (by rfl) (fun w' hS => ?_) ?_; rotate_left 1; (go_simp <;> (try with_reducible rfl)); (simp only [Act.put, List.setIfInBounds_toArray, List.set_cons_zero, List.set_cons_succ])
          refine plan_tail ?_
          go_wp2
          refine NoPanic.normal ?_
          go_wp2
          go_ret
          refine ⟨?_, n + 1, ((World.drewN_drewN ..).symm)⟩
          rw [decide_eq_false (fun h => he (by have e := HX.out; subst h; rw [HY.out] at e; injection e with e _; exact e.symm))]
          rfl
      · go_wp2
        go_ret
        refine ⟨?_, n, rfl⟩
        have hkl : k = xs.length := by omega
        have hT' := hT.out
        rw [hkl, List.take_length, List.take_of_length_le (by rw [HL.out]; exact Nat.le_refl _)] at hT'
        rw [decide_eq_true hT']
        rfl
  · have hne : ((xs.length : Int) == (ys.length : Int)) = false := by rw [beq_eq_false_iff_ne]; omega
    have hne' : ((xs.length : Int) != (ys.length : Int)) = true := by rw [bne_iff_ne]; omega
    go_enter Try.func33, Try.ntmps33
    go_wp2
    go_ret
    refine ⟨?_, 0, rfl⟩
    rw [decide_eq_false (fun h => hlen (by rw [h]))]
    rfl
end Go.Proofs.Ytgnndggbjipioaa
