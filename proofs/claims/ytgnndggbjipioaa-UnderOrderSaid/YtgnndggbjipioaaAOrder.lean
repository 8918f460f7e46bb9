/- weftlaw18.UnderOrder: packets that are put in parts and taken from the front come out in their order: true. Conditions: the packets and the cuts can be read. -/
import Derived.Test.YtgnndggbjipioaaACounts
import Derived.Deep.CutBlock
import Derived.Deep.DeepCutAuto
namespace Go.Proofs.Ytgnndggbjipioaa
open Go.RowKit

theorem putS_all (lim : Nat) (ss : List Pk) : ∀ ps : List Pk, ps.length + ss.length ≤ lim → (∀ s ∈ ss, s.2.length ≤ 65535) → putS lim ps ss = (ss.length, 0, ps ++ ss) := by
  induction ss with
  | nil => intro ps _ _; simp [putS]
  | cons s ss ih =>
    intro ps h hl
    simp only [List.length_cons] at h
    rw [putS, if_neg (by have := hl s (List.mem_cons_self ..); omega), if_neg (by omega), ih (ps ++ [s]) (by simp; omega) (fun x hx => hl x (List.mem_cons_of_mem _ hx))]
    simp

/-- The slice at A reads as numbers, in blocks that S lets. -/
def Nums (S : Nat → Prop) (w : World) (A : Option Addr) (bs : List Int) : Prop :=
  bs.length ≤ 281474976710656 ∧ (bs ≠ [] → ∃ b o, A = some ⟨b, o, none⟩ ∧ S b ∧ ∀ j (h : j < bs.length), w.cell? ⟨b, o + j, none⟩ = some (.int .i64 bs[j]))

theorem Nums.keep {S : Nat → Prop} {w w' : World} {A : Option Addr} {bs : List Int} (h : Nums S w A bs) (hk : Keeps S w w') : Nums S w' A bs :=
  ⟨h.1, fun hn => by
    obtain ⟨b, o, e, hs, hc⟩ := h.2 hn
    exact ⟨b, o, e, hs, fun j hj => (hk.cell (lt_of_cell (hc j hj)) hs).trans (hc j hj)⟩⟩
theorem Nums.at_ {S : Nat → Prop} {w : World} {A : Option Addr} {bs : List Int} (h : Nums S w A bs) {j : Nat} (hj : j < bs.length) : ∃ b o, A = some ⟨b, o, none⟩ ∧ S b ∧ w.cell? ⟨b, o + j, none⟩ = some (.int .i64 bs[j]) := by
  obtain ⟨b, o, e, hs, hc⟩ := h.2 (by rintro rfl; simp at hj)
  exact ⟨b, o, e, hs, hc j hj⟩

theorem takeS_cons (x : Pk) (l : List Pk) : takeS 0 (x :: l) = (x, 0, l) := ftakeS_yes (j := 0) (ps := x :: l) (by simp)
theorem takeS_drop {ss : List Pk} {k : Nat} (h : k < ss.length) : takeS 0 (ss.drop k) = (ss[k], 0, ss.drop (k + 1)) := by
  rw [List.drop_eq_getElem_cons h]
  exact takeS_cons _ _

/-- ahead of a round of the putting -/
def InOrd (w : World) (ss : List Pk) (n : Nat) (a v : Value) (wr : World) : Prop :=
  ∃ (k at_ : Nat) (F : Nat → Prop), a = .int .i64 at_ ∧ v = .int .i64 k ∧ k ≤ n ∧ at_ ≤ ss.length ∧ NetU F wr w.heap.size 4096 (ss.take at_) ∧ Old w wr ∧ ∀ k, F k → w.heap.size ≤ k

/-- ahead of a round of the taking -/
def InTak (w : World) (ss : List Pk) (v : Value) (wr : World) : Prop :=
  ∃ (k : Nat) (F : Nat → Prop), v = .int .i64 k ∧ k ≤ ss.length ∧ NetU F wr w.heap.size 4096 (ss.drop k) ∧ Old w wr ∧ ∀ k, F k → w.heap.size ≤ k

set_option maxRecDepth 10000 in
set_option maxHeartbeats 4000000 in
theorem order_any (w : World) (S : Nat → Prop) (A B : Option Addr) (c d : Nat) (ss : List Pk) (cs : List Int) (hP : Pks S w A ss) (hB : Nums S w B cs) (hc : ss.length ≤ c) (hS : ∀ k, S k → k < w.heap.size) :
    Calls Try.prog 13 #[.slice A ss.length c, .slice B cs.length d] w fun e w' => e = .returned (.bool true) ∧ Old w w' := by
  have hu := unew_any w 4096
  unfold PostUNew at hu
  simp only [if_pos (show (1 : Int) ≤ 4096 ∧ (4096 : Int) ≤ 4096 by omega)] at hu
  have hl0 := hP.1
  have hb0 := hB.1
  go_enter Try.func13, Try.ntmps13
  go_wp2_with fail
  refine hu.mono ?_
  rintro e w1 ⟨k1, rfl, hU⟩
  clear hu
  go_wp2_with fail
  refine (first_any w1).mono ?_
  rintro e w2 ⟨rfl, k2⟩
  have hN : NetU (fun k => k = w.heap.size) w2 w.heap.size 4096 [] := ⟨_, _, (by simpa using hU.keep (k2.old _)), rfl⟩
  have k12 := k1.trans' k2
  by_cases hbig : ss.length ≤ 4096
  · have i0 : ¬ (ss.length : Int) > 4096 := by omega
    go_wp2
    go_loopw [7] (fun v wr => ∃ k : Nat, v = .int .i64 k ∧ k ≤ ss.length ∧ wr = w2 ∧ Hid (∀ i (h : i < ss.length), i < k → ss[i].2.length ≤ 65535)) (fun v _ => ss.length - (intOf v).toNat)
    case atStart => exact ⟨0, rfl, by omega, rfl, hid (fun _ _ h => by omega)⟩
    case round =>
      obtain ⟨k, rfl, hk, rfl, hall⟩ := hrel
      by_cases hlt : k < ss.length
      · obtain ⟨b, o, A', c', rfl, _, h0, h1, _, h3⟩ := (hP.keep (k12.old _)).at_ hlt
        have hx := hall.out
        have hbl := h3.1
        have HK : Hid ((ss[k].2.length ≤ 65535) → ∀ i (h : i < ss.length), i < k + 1 → ss[i].2.length ≤ 65535) := hid fun hle i h hi => by
          by_cases e : i = k
          · subst e; exact hle
          · exact hx i h (by omega)
        clear hall hx
        generalize ss[k] = x at *
        have i1 : (0 : Int) ≤ (k : Int) := by omega
        have i2 : (k : Int) < (ss.length : Int) := by omega
        by_cases hxl : x.2.length ≤ 65535
        · have i3 : ¬ (x.2.length : Int) > 65535 := by omega
          go_wp2
          exact ⟨⟨k + 1, by go_num, by omega, by first | rfl | trivial, hid (HK.out hxl)⟩, by simp [intOf]; omega⟩
        · have i3 : (x.2.length : Int) > 65535 := by omega
          go_wp2
          go_ret
          exact ⟨rfl, k12⟩
      · have hall' : ∀ s ∈ ss, s.2.length ≤ 65535 := fun s hs => by
          obtain ⟨i, hi, rfl⟩ := List.mem_iff_getElem.1 hs
          exact hall.out i hi (by omega)
        have ALL := hid hall'
        clear hall hall'
        have hl16 := hbig
        go_upto_block 2 with fail
        clear hlt hk hbig
        go_cut [8] (fun a wx => ∃ (at_ : Nat) (F : Nat → Prop), a = .int .i64 at_ ∧ at_ ≤ ss.length ∧ NetU F wx w.heap.size 4096 (ss.take at_) ∧ Old w wx ∧ ∀ k, F k → w.heap.size ≤ k)
        case first =>
         go_wp2_with fail
         go_loopw [8, 9] (fun a v wr => InOrd w ss cs.length a v wr) (fun _ v _ => cs.length - (intOf v).toNat)
         case atStart => exact ⟨0, 0, _, rfl, rfl, by omega, by omega, by simpa using hN, k12, fun k h => by omega⟩
         case round =>
           clear hN
           obtain ⟨k, at_, F, rfl, rfl, hk, hat, hNr, hold, hFl⟩ := hrel
           by_cases hlt : k < cs.length ∧ at_ < ss.length
           · obtain ⟨hlt, hlt2⟩ := hlt
             obtain ⟨b, o, rfl, hSb, g0⟩ := (hB.keep (hold.old _)).at_ hlt
             generalize hv : cs[k] = v at *
             clear hv
             have i1 : (0 : Int) ≤ (k : Int) := by omega
             have i2 : (k : Int) < (cs.length : Int) := by omega
             have i3 : (at_ : Int) < (ss.length : Int) := by omega
             have b1 : IntKind.i64.wrap ((ss.length : Int) - (at_ : Int)) = (ss.length : Int) - at_ := by rw [IntKind.wrap_i64]; omega
             have b2 : IntKind.i64.wrap ((k : Int) + 1) = (k : Int) + 1 := by rw [IntKind.wrap_i64]; omega
             by_cases hv0 : v > 0
             · obtain ⟨n, rfl⟩ := Int.eq_ofNat_of_zero_le (show 0 ≤ v by omega)
               by_cases hfit : (n : Int) ≤ (ss.length : Int) - at_
               · have b3 : IntKind.i64.wrap ((at_ : Int) + (n : Int)) = (at_ : Int) + n := by rw [IntKind.wrap_i64]; omega
                 have b4 : ((at_ : Int) + (n : Int)).toNat = at_ + n := by omega
                 have i4 : (0 : Int) ≤ (at_ : Int) + n := by omega
                 have i5 : at_ ≤ c := by omega
                 have i6 : at_ + n ≤ c := by omega
                 have i7 : (at_ : Int) ≤ (at_ : Int) + n := by omega
                 have i8 : at_ + n ≤ ss.length := by omega
                 have i9 : at_ ≤ at_ + n := by omega
                 have i10 : (0 : Int) ≤ (at_ : Int) := by omega
                 have hlen : ((ss.drop at_).take n).length = n := by simp; omega
                 have htl : (ss.take at_).length = at_ := by simp; omega
                 have hp := put_net hNr (c := c - at_) (ss := (ss.drop at_).take n) ((hP.keep (hold.old _)).part (X := Option.map (fun x => x.add (at_ * 2)) A) i8 fun _ b o e => by rw [e]; simp [Addr.add_lit])
                   fun j hj => ⟨by have := hS j hj; have := hold.size; omega, fun h => by have := hS j hj; have := hFl j h; omega⟩
                 rw [putS_all 4096 ((ss.drop at_).take n) (ss.take at_) (by rw [hlen, htl]; omega) (fun s hs => ALL.out s (List.mem_of_mem_drop (List.mem_of_mem_take hs))), hlen, ← List.take_add] at hp
                 unfold PostNP at hp
                 simp only at hp
                 clear hlen htl
                 go_wp2_with fail
                 refine hp.mono ?_
                 rintro e w3 ⟨rfl, F3, hN3, hF3, hK3⟩
                 clear hp
                 have hold3 : Old w w3 := hold.trans hK3 fun j hj _ h => by have := hFl j h; omega
                 have hg3 : w3.cell? ⟨b, o + k, none⟩ = some (.int .i64 (n : Int)) := (hK3.cell (lt_of_cell g0) (fun h => by have := hS b hSb; have := hFl b h; omega)).trans g0
                 clear g0
                 go_wp2
                 exact ⟨⟨k + 1, at_ + n, F3, by simp, by simp, by omega, by omega, hN3, hold3, fun j h => by
                   have := hold.size
                   rcases hF3 j h with h | h
                   · exact hFl j h
                   · omega⟩, by simp [intOf]; omega⟩
               · go_wp2
                 exact ⟨⟨k + 1, at_, F, rfl, by simp, by omega, by omega, hNr, hold, hFl⟩, by simp [intOf]; omega⟩
             · go_wp2
               exact ⟨⟨k + 1, at_, F, rfl, by simp, by omega, by omega, hNr, hold, hFl⟩, by simp [intOf]; omega⟩
           · have hex : ¬ (k : Int) < (cs.length : Int) ∨ ((k : Int) < (cs.length : Int) ∧ ¬ (at_ : Int) < (ss.length : Int)) := by omega
             clear hlt
             rcases hex with hex | ⟨hex, hex2⟩ <;> (
               go_wp2
               go_meet
               exact ⟨at_, F, rfl, hat, hNr, hold, hFl⟩)
        case rest =>
        obtain ⟨at_, F, rfl, hat, hNr, hold, hFl⟩ := hcut
        clear hN
        have hlen : ((ss.drop at_).take (ss.length - at_)).length = ss.length - at_ := by simp
        have htl : (ss.take at_).length = at_ := by simp; omega
        have hp : ∀ X cc, (at_ < ss.length → ∀ b o, A = some ⟨b, o, none⟩ → X = some ⟨b, o + at_ * 2, none⟩) → Calls Try.prog 27 #[.pointer (some ⟨w.heap.size, 0, none⟩), .slice X (ss.length - at_) cc] wc (PostNP F wc w.heap.size 4096 (ss.length - at_, 0, ss)) := fun X cc hX => by
          have h := put_net hNr (c := cc) (ss := (ss.drop at_).take (ss.length - at_)) ((hP.keep (hold.old _)).part (X := X) (by omega) hX)
            fun j hj => ⟨by have := hS j hj; have := hold.size; omega, fun h => by have := hS j hj; have := hFl j h; omega⟩
          rw [putS_all 4096 ((ss.drop at_).take (ss.length - at_)) (ss.take at_) (by rw [hlen, htl]; omega) (fun s hs => ALL.out s (List.mem_of_mem_drop (List.mem_of_mem_take hs))), hlen, ← List.take_add, show at_ + (ss.length - at_) = ss.length by omega, List.take_length] at h
          exact h
        have HP := hid hp
        have b1 : IntKind.i64.wrap ((ss.length : Int) - (at_ : Int)) = (ss.length : Int) - at_ := by rw [IntKind.wrap_i64]; omega
        have b2 : (((ss.length - at_ : Nat) : Int) != (ss.length : Int) - at_) = false := by rw [bne_eq_false_iff_eq]; omega
        have i5 : at_ ≤ c := by omega
        have i10 : (0 : Int) ≤ (at_ : Int) := by omega
        have i11 : (at_ : Int) ≤ (ss.length : Int) := by omega
        clear hp hlen htl
        go_upto_region 20 with fail
        go_cut [12, 13] (fun a b wx => ∃ F : Nat → Prop, a = .int .i64 ((ss.length - at_ : Nat) : Int) ∧ b = .int .i64 0 ∧ NetU F wx w.heap.size 4096 ss ∧ Old w wx ∧ ∀ k, F k → w.heap.size ≤ k)
        case first =>
          (go_wp2_with fail) <;> (
            refine (HP.out _ _ ?_).mono ?_
            · intro h b o e
              first
              | (exfalso; omega)
              | (rw [e]; simp [Addr.add_lit])
            rintro e w3 ⟨rfl, F3, hN3, hF3, hK3⟩
            try (have he : c = at_ := by assumption
                 subst he)
            go_wp2
            go_meet
            exact ⟨F3, by first | rfl | (rw [show ss.length - c = 0 by omega]; rfl), rfl, hN3, hold.trans hK3 fun j hj _ h => by have := hFl j h; omega, fun j h => by
              have := hold.size
              rcases hF3 j h with h | h
              · exact hFl j h
              · omega⟩)
        case rest =>
        clear HP hFl hold hNr
        obtain ⟨F3, rfl, rfl, hN3, hold3, hFl3⟩ := hcut
        go_wp2
        go_loopw [14] (fun v wr => InTak w ss v wr) (fun v _ => ss.length - (intOf v).toNat)
        case atStart => exact ⟨0, F3, rfl, by omega, by simpa using hN3, hold3, hFl3⟩
        case round =>
          clear hN3 hold3 hFl3
          obtain ⟨k, F, rfl, hk, hNr, hold, hFl⟩ := hrel
          by_cases hlt : k < ss.length
          · have ht := take_net hNr 0
            rw [takeS_drop hlt] at ht
            have E1 : Hid ([ss[k]] = (ss.drop k).take 1) := hid (by rw [List.drop_eq_getElem_cons hlt]; rfl)
            generalize ss[k] = q at *
            obtain ⟨t, bs⟩ := q
            have i1 : (0 : Int) ≤ (k : Int) := by omega
            have i2 : (k : Int) < (ss.length : Int) := by omega
            have i3 : IntKind.i64.wrap ((k : Int) + 1) = (k : Int) + 1 := by rw [IntKind.wrap_i64]; omega
            have i4 : ((k : Int) + 1).toNat = k + 1 := by omega
            have i6 : (0 : Int) ≤ (k : Int) + 1 := by omega
            have i7 : (k : Int) ≤ (k : Int) + 1 := by omega
            have i8 : k + 1 ≤ c := by omega
            have i9 : k ≤ k + 1 := by omega
            go_wp2_with fail
            refine ht.mono ?_
            rintro e w4 ⟨A2, c2, F4, G2, rfl, hN4, hb2, hc2, hF4, hG2, _, hK4⟩
            clear ht
            have k5 : Old w4 (w4.alloc (.cells #[.int .u32 t, .slice A2 bs.length c2] 48)) := (Keeps.refl _ _).alloc _
            have hs9 : (w4.alloc (.cells #[.int .u32 t, .slice A2 bs.length c2] 48)).heap[w4.heap.size]? = some (.cells #[.int .u32 t, .slice A2 bs.length c2] 48 (0, 0)) := heap_alloc_new _ _
            have hold4 : Old w w4 := hold.trans hK4 fun j hj _ h => by have := hFl j h; omega
            go_wp2
            obtain ⟨w5, hw5⟩ : ∃ w5, w5 = w4.alloc (.cells #[.int .u32 t, .slice A2 bs.length c2] 48) := ⟨_, rfl⟩
            rw [← hw5] at k5 hs9 ⊢
            clear hw5
            have y0 : w5.cell? ⟨w4.heap.size, 0, none⟩ = some (.int .u32 t) := cell_of_heap hs9
            have y1 : w5.cell? ⟨w4.heap.size, 1, none⟩ = some (.slice A2 bs.length c2) := cell_of_heap hs9
            have hb5 := hb2.keep (k5.old _)
            have hP5 := hP.keep ((hold4.trans' k5).old _)
            refine wp_region_planP (fun w' => w'.cell? ⟨w4.heap.size, 0, none⟩ = some (.int .u32 t) ∧ w'.cell? ⟨w4.heap.size, 1, none⟩ = some (.slice A2 bs.length c2))
              13 (tks [0, 1, 2, 3, 5, 6, 7, 8, 9] ++ lds [4, 10] ++ tks [11, 12]) (by kernel_rfl) (by kernel_rfl) ⟨y0, y1⟩ ?_
            iterate 9 (refine planP_take (v := ?_) (by rfl) (by rfl) (fun w' hS => ?_) ?_; rotate_left 1; (obtain ⟨s0, s1⟩ := hS; go_simp <;> (try rw [if_pos (by omega)]) <;> (try with_reducible rfl)); (simp only [Act.put, List.setIfInBounds_toArray, List.set_cons_zero, List.set_cons_succ]))
            obtain ⟨X, hX⟩ : ∃ X, X = (if c = k then A else Option.map (fun x => x.add (k * 2)) A) := ⟨_, rfl⟩
            rw [← hX]
            have pX : ∀ (w' : World) (T : Nat → Prop), Pks T w' A ss → Pks T w' X ((ss.drop k).take 1) := fun w' T h => h.part (by omega) fun hlt b' o' e => by
              rw [hX, if_neg (by omega), e]
              simp [Addr.add_lit]
            have PX := hid pX
            clear pX hX
            refine planP_loud (by rfl) (by rfl) (fun K hK => ?_)
            go_wp2
            obtain ⟨W4, hW4⟩ : ∃ W, W = (w5.alloc (.cells #[.int .u32 t, .slice A2 bs.length c2] 48)).drew := ⟨_, rfl⟩
            rw [← hW4]
            have k6 : Old w5 W4 := by subst hW4; exact ((Keeps.refl _ _).alloc _).drew
            have hs4 : W4.heap[w5.heap.size]? = some (.cells #[.int .u32 t, .slice A2 bs.length c2] 48 (0, 0)) := by subst hW4; exact heap_alloc_new _ _
            refine hK _ _ ⟨(k6.cell (lt_of_cell y0) trivial).trans y0, (k6.cell (lt_of_cell y1) trivial).trans y1⟩ ?_
            clear hK K hW4
            have hone := pks_one hs4 hc2 (hb5.keep (k6.old _))
            have hP6 := hP5.keep (k6.old _)
            refine planP_loud (by rfl) (by rfl) (fun K hK => ?_)
            go_wp2_with (go_at_call 33; refine (sents_len _ _ _ _ _ _ _ _ _ [(t, bs)] ((ss.drop k).take 1) (by simp) (by simp; omega) hone (PX.out _ _ hP6) true (decide_eq_true E1.out)).mono ?_)
            rintro e w7 ⟨rfl, n1, rfl⟩
            have k7 : Old w5 (W4.drewN n1) := k6.trans' ((Keeps.refl _ _).drewN _)
            refine hK _ _ ⟨(k7.cell (lt_of_cell y0) trivial).trans y0, (k7.cell (lt_of_cell y1) trivial).trans y1⟩ ?_
            clear hK K
            iterate 2 (refine planP_take (v := ?_) (by rfl) (by rfl) (fun w' hS => ?_) ?_; rotate_left 1; (obtain ⟨s0, s1⟩ := hS; go_simp <;> (try rw [if_pos (by omega)]) <;> (try with_reducible rfl)); (simp only [Act.put, List.setIfInBounds_toArray, List.set_cons_zero, List.set_cons_succ]))
            refine planP_tail (by rfl) ?_
            go_wp2
            refine NoPanic.normal ?_
            go_wp2
            exact ⟨⟨k + 1, F4, by simp, by omega, (hN4.keep (k5.old _)).keep (by simpa using k7.old F4), (hold4.trans' k5).trans' (by simpa using k7), fun j h => hFl j (hF4 j h)⟩, by simp [intOf]; omega⟩
          · have hk0 : k = ss.length := by omega
            subst hk0
            have ht := take_net hNr 0
            rw [List.drop_length, ftakeS_no (i := 0) (ps := []) (by simp)] at ht
            go_wp2_with fail
            refine ht.mono ?_
            rintro e w4 ⟨A2, c2, F4, G2, rfl, hN4, hb2, hc2, hF4, hG2, _, hK4⟩
            clear ht
            go_wp2
            go_ret
            exact ⟨rfl, (hold.trans hK4 fun j hj _ h => by have := hFl j h; omega).alloc _⟩
  · have i0 : (ss.length : Int) > 4096 := by omega
    go_wp2
    go_ret
    exact ⟨rfl, k12⟩
end Go.Proofs.Ytgnndggbjipioaa
