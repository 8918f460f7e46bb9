/- weftlaw18.UnderSpoilTwice: the same Spoil again undoes it; a copy made between keeps what it was made of: true. Conditions: the packet can be read; at is an int. -/
import Derived.Test.YtgnndggbjipioaaACounts
import Derived.Test.YtgnndggbjipioaaAPlan3
import Derived.Deep.CutBlock
import Derived.Deep.DeepCutAuto
namespace Go.Proofs.Ytgnndggbjipioaa
open Go.RowKit

theorem putS_one {lim : Nat} {s : Pk} (hl : 1 ≤ lim) (h : s.2.length ≤ 65535) : putS lim [] [s] = (1, 0, [s]) := by
  rw [putS, if_neg (by omega), if_neg (by simp; omega)]
  rfl

theorem Bts.mono' {S T : Nat → Prop} {w : World} {A : Option Addr} {bs : List UInt8} (h : Bts S w A bs) (hT : ∀ k, S k → T k) : Bts T w A bs :=
  ⟨h.1, fun hn => by
    obtain ⟨b, o, e, hs, hc⟩ := h.2 hn
    exact ⟨b, o, e, hT b hs, hc⟩⟩

theorem pks_four {G : Nat → Prop} {w : World} {b c d n : Nat} {t : Int} {A B : Option Addr} {xs ys : List UInt8} (hn : ys.length = n) (hb : w.heap[b]? = some (.cells #[.int .u32 t, .slice A xs.length c, .int .u32 t, .slice B n d, .int .u32 t, .slice A xs.length c, .int .u32 t, .slice A xs.length c] 48 (0, 0)))
    (hc : xs.length ≤ c) (hd : ys.length ≤ d) (hx : Bts G w A xs) (hy : Bts G w B ys) : Pks (fun k => k = b ∨ G k) w (some ⟨b, 0, none⟩) [(t, xs), (t, ys), (t, xs), (t, xs)] := by
  subst hn
  refine ⟨by simp, fun _ => ⟨b, 0, rfl, .inl rfl, fun i hi => ?_⟩⟩
  have hi4 : i = 0 ∨ i = 1 ∨ i = 2 ∨ i = 3 := by simp at hi; omega
  rcases hi4 with rfl | rfl | rfl | rfl
  · exact ⟨A, c, cell_of_heap hb, cell_of_heap hb, hc, hx.mono' fun _ h => .inr h⟩
  · exact ⟨B, d, cell_of_heap hb, cell_of_heap hb, hd, hy.mono' fun _ h => .inr h⟩
  · exact ⟨A, c, cell_of_heap hb, cell_of_heap hb, hc, hx.mono' fun _ h => .inr h⟩
  · exact ⟨A, c, cell_of_heap hb, cell_of_heap hb, hc, hx.mono' fun _ h => .inr h⟩

/-- A net at g that has been changed since w5. -/
def Stp (g : Nat) (w5 wi : World) (ps : List Pk) : Prop := ∃ F, NetU F wi g 9 ps ∧ (∀ k, F k → k = g ∨ w5.heap.size ≤ k) ∧ Keeps (fun k => k ≠ g) w5 wi

theorem Stp.of {F : Nat → Prop} {g : Nat} {w5 wi w' : World} {z : Int} {ps' : List Pk} {e : Ending} (hF : ∀ k, F k → k = g ∨ w5.heap.size ≤ k) (hK : Keeps (fun k => k ≠ g) w5 wi) (h : PostN F wi g 9 (z, ps') e w') :
    e = .returned (.int .i64 z) ∧ Stp g w5 w' ps' := by
  obtain ⟨rfl, F', h1, h2, h3⟩ := h
  refine ⟨rfl, F', h1, fun k hk => ?_, hK.trans h3 fun k hk hg hf => ?_⟩
  · have := hK.size
    rcases h2 k hk with h | h
    · exact hF k h
    · omega
  · rcases hF k hf with h | h
    · exact hg h
    · omega
theorem Stp.spoil {g : Nat} {w5 wi : World} {ps ps' : List Pk} (H : Stp g w5 wi ps) (i a : Int) (m : UInt8) (e : spoilS i a m ps = (0, ps')) :
    Calls Try.prog 31 #[.pointer (some ⟨g, 0, none⟩), .int .i64 i, .int .i64 a, .int .u8 m.toNat] wi fun e w' => e = .returned (.int .i64 0) ∧ Stp g w5 w' ps' := by
  obtain ⟨F, hN, hF, hK⟩ := H
  have h := spoil_net hN i a m
  rw [e] at h
  exact h.mono fun e w' h => Stp.of hF hK h
theorem Stp.copy {g : Nat} {w5 wi : World} {ps ps' : List Pk} (H : Stp g w5 wi ps) (i : Int) (e : copyS 9 i ps = (0, ps')) :
    Calls Try.prog 29 #[.pointer (some ⟨g, 0, none⟩), .int .i64 i] wi fun e w' => e = .returned (.int .i64 0) ∧ Stp g w5 w' ps' := by
  obtain ⟨F, hN, hF, hK⟩ := H
  have h := copy_net hN i
  rw [e] at h
  exact h.mono fun e w' h => Stp.of hF hK h

set_option maxRecDepth 10000 in
set_option maxHeartbeats 4000000 in
theorem spoilTwice_any (w : World) (S : Nat → Prop) (t : Int) (A : Option Addr) (c : Nat) (bs : List UInt8) (at0 : Int) (m : UInt8) (hr : Bts S w A bs) (hc : bs.length ≤ c) (hS : ∀ k, S k → k < w.heap.size)
    (ha0 : -9223372036854775808 ≤ at0) (ha1 : at0 < 9223372036854775808) :
    Calls Try.prog 14 #[.agg #[.int .u32 t, .slice A bs.length c], .int .i64 at0, .int .u8 m.toNat] w fun e w' => e = .returned (.bool true) ∧ Old w w' := by
  have hl0 := hr.1
  obtain ⟨W, hW⟩ : ∃ W, W = w.alloc (.cells #[.int .u32 t, .slice A bs.length c] 48) := ⟨_, rfl⟩
  have k0 : Old w W := by rw [hW]; exact (Keeps.refl _ _).alloc _
  have hbx : W.heap[w.heap.size]? = some (.cells #[.int .u32 t, .slice A bs.length c] 48 (0, 0)) := by rw [hW]; exact heap_alloc_new _ _
  have hz0 : W.heap.size = w.heap.size + 1 := by rw [hW]; simp
  have hu := unew_any W 9
  unfold PostUNew at hu
  simp only [if_pos (show (1 : Int) ≤ 9 ∧ (9 : Int) ≤ 4096 by omega)] at hu
  go_enter Try.func14, Try.ntmps14
  go_wp2_with fail
  rw [← hW]
  clear hW
  refine hu.mono ?_
  rintro e w1 ⟨k1, rfl, hU⟩
  clear hu
  go_wp2_with fail
  refine (first_any w1).mono ?_
  rintro e w2 ⟨rfl, k2⟩
  have hN : NetU (fun k => k = W.heap.size) w2 W.heap.size 9 [] := ⟨_, _, (by simpa using hU.keep (k2.old _)), rfl⟩
  have k12 := k1.trans' k2
  have hb2 := k12.heap hbx trivial
  have x0 : w2.cell? ⟨w.heap.size, 0, none⟩ = some (.int .u32 t) := cell_of_heap hb2
  have x1 : w2.cell? ⟨w.heap.size, 1, none⟩ = some (.slice A bs.length c) := cell_of_heap hb2
  by_cases hbig : ¬ bs.length ≤ 65535 ∨ bs.length = 0 ∨ m = 0
  · have hQ : ∀ (h : ¬ ((bs.length : Int) > 65535)) (h : ¬ ((bs.length : Int) == 0) = true), (m.toNat : Int) = 0 := fun h1 h2 => by
      rcases hbig with h | h | h
      · omega
      · simp [h] at h2
      · simp [h]
    rcases hbig with h | h | h
    · have i0 : (bs.length : Int) > 65535 := by omega
      go_wp2
      go_ret
      exact ⟨rfl, k0.trans' k12⟩
    · have i0 : ¬ (bs.length : Int) > 65535 := by omega
      have i1 : ((bs.length : Int) == 0) = true := by simp [h]
      clear hQ
      go_wp2
      go_ret
      exact ⟨rfl, k0.trans' k12⟩
    · subst h
      by_cases j0 : (bs.length : Int) > 65535
      · go_wp2
        go_ret
        exact ⟨rfl, k0.trans' k12⟩
      · cases j1 : ((bs.length : Int) == 0) <;> (
          go_wp2
          go_ret
          exact ⟨rfl, k0.trans' k12⟩)
  · have hb1 : bs.length ≤ 65535 := by omega
    have hb0 : 0 < bs.length := by omega
    have hm : m ≠ 0 := fun h => hbig (.inr (.inr h))
    have i0 : ¬ (bs.length : Int) > 65535 := by omega
    have i1 : ((bs.length : Int) == 0) = false := by rw [beq_eq_false_iff_ne]; omega
    have hm0 : ((m.toNat : Int) == 0) = false := by
      rw [beq_eq_false_iff_ne]
      intro h
      exact hm (UInt8.toNat_inj.1 (by simpa using h))
    clear hbig
    go_upto_if 40 with fail
    go_cut [1] (fun a wx => ∃ z : Nat, a = .int .i64 z ∧ wx = w2)
    case first =>
      by_cases hneg : at0 < 0
      · have e1 : IntKind.i64.wrap (at0 + 1) = at0 + 1 := by rw [IntKind.wrap_i64]; omega
        have e2 : IntKind.i64.wrap (-(at0 + 1)) = -(at0 + 1) := by rw [IntKind.wrap_i64]; omega
        go_wp2
        go_meet
        exact ⟨(-(at0 + 1)).toNat, by simp; omega, rfl⟩
      · go_wp2
        go_meet
        exact ⟨at0.toNat, by simp; omega, rfl⟩
    case rest =>
    obtain ⟨z, rfl, rfl⟩ := hcut
    go_wp2_with fail
    rw [← Int.natCast_emod]
    have ha : z % bs.length < bs.length := Nat.mod_lt _ hb0
    generalize z % bs.length = a at *
    have k02 := k0.trans' k12
    refine (aown_any wc _ A c bs (hr.keep (k02.old _)) hb1).mono ?_
    rintro e w3 ⟨v, rfl, hv, k3⟩
    obtain ⟨bb, cap, cur, rfl, hFb, hcap, hgb, hcx⟩ := hv.block_ (x := a) ha
    have hy : w3.cell? ⟨bb, a, none⟩ = some (.int .u8 (bs[a].toNat : Int)) := hcx
    have hfz : w3.frozen? ⟨bb, a, none⟩ = false := frozen_of_heap hgb
    have hb3 := k3.heap hb2 trivial
    have y0 : w3.cell? ⟨w.heap.size, 0, none⟩ = some (.int .u32 t) := cell_of_heap hb3
    have y1 : w3.cell? ⟨w.heap.size, 1, none⟩ = some (.slice A bs.length c) := cell_of_heap hb3
    have i2 : (a : Int) < (bs.length : Int) := by omega
    have i3 : (0 : Int) ≤ (a : Int) := by omega
    have hbb : w.heap.size ≠ bb := by have := lt_of_heap hb2; have : wc.heap.size ≤ bb := hFb; omega
    obtain ⟨sp, hsp⟩ : ∃ sp, sp = bs.set a (bs[a] ^^^ m) := ⟨_, rfl⟩
    have hspl : sp.length = bs.length := by rw [hsp]; simp
    have hspa : bs = sp.set a (sp[a]'(by omega) ^^^ m) := by
      subst hsp
      rw [List.getElem_set_self, List.set_set, UInt8.xor_assoc, UInt8.xor_self, UInt8.xor_zero, List.set_getElem_self]
    have e1 : spoilS 0 a m [(t, bs)] = (0, [(t, sp)]) := by
      rw [hsp]; exact fspoilS_yes' (j := 0) (t := t) (bs := bs) (by simp) rfl ha hm
    have e2 : copyS 9 0 [(t, sp)] = (0, [(t, sp), (t, sp)]) := fcopyS_yes (lim := 9) (j := 0) (ps := [(t, sp)]) (by simp) (by simp)
    have e3 : spoilS 0 a m [(t, sp), (t, sp)] = (0, [(t, bs), (t, sp)]) := by
      have := fspoilS_yes' (j := 0) (a := a) (m := m) (ps := [(t, sp), (t, sp)]) (t := t) (bs := sp) (by simp) rfl (by omega) hm
      rw [← hspa] at this; exact this
    have e4 : copyS 9 0 [(t, bs), (t, sp)] = (0, [(t, bs), (t, sp), (t, bs)]) := fcopyS_yes (lim := 9) (j := 0) (ps := [(t, bs), (t, sp)]) (by simp) (by simp)
    have e5 : spoilS 1 a m [(t, bs), (t, sp), (t, bs)] = (0, [(t, bs), (t, bs), (t, bs)]) := by
      have := fspoilS_yes' (j := 1) (a := a) (m := m) (ps := [(t, bs), (t, sp), (t, bs)]) (t := t) (bs := sp) (by simp) rfl (by omega) hm
      rw [← hspa] at this; exact this
    have e6 : copyS 9 1 [(t, bs), (t, bs), (t, bs)] = (0, [(t, bs), (t, bs), (t, bs), (t, bs)]) := fcopyS_yes (lim := 9) (j := 1) (ps := [(t, bs), (t, bs), (t, bs)]) (by simp) (by simp)
    have e7 : spoilS 1 a m [(t, bs), (t, bs), (t, bs), (t, bs)] = (0, [(t, bs), (t, sp), (t, bs), (t, bs)]) := by
      have := fspoilS_yes' (j := 1) (a := a) (m := m) (ps := [(t, bs), (t, bs), (t, bs), (t, bs)]) (t := t) (bs := bs) (by simp) rfl ha hm
      rw [← hsp] at this; exact this
    have ow := hv.set_ (x := a) ha (bs[a] ^^^ m)
    rw [← hsp] at ow
    have E1 := hid e1
    have E2 := hid e2
    have E3 := hid e3
    have E4 := hid e4
    have E5 := hid e5
    have E6 := hid e6
    have E7 := hid e7
    have HSP := hid hspl
    clear e1 e2 e3 e4 e5 e6 e7 hspa hspl hsp
    go_upto_region 11 with fail
    rw [xor_u8]
    obtain ⟨W3, hW3⟩ : ∃ W3, W3 = w3.setCell ⟨bb, a, none⟩ (.int .u8 ((bs[a] ^^^ m).toNat : Int)) := ⟨_, rfl⟩
    rw [← hW3]
    have K33 : Keeps (· ≠ bb) w3 W3 := by subst hW3; exact (Keeps.refl _ _).setCell (fun _ h => h rfl) _
    have ow3 : OwnB (fun k => wc.heap.size ≤ k) W3 (.slice (some ⟨bb, 0, none⟩) sp.length cap) sp := by
      rw [hW3, HSP.out]
      exact ow
    clear hW3 ow
    have z0 : W3.cell? ⟨w.heap.size, 0, none⟩ = some (.int .u32 t) := (K33.cell (lt_of_cell y0) hbb).trans y0
    have hb33 := K33.heap hb3 hbb
    go_upto_region 12 with fail
    obtain ⟨W4, hW4⟩ : ∃ W, W = W3.alloc (.cells #[.int .u32 t, .slice (some ⟨bb, 0, none⟩) bs.length cap] 48) := ⟨_, rfl⟩
    rw [← hW4]
    have k34 : Old W3 W4 := by rw [hW4]; exact (Keeps.refl _ _).alloc _
    have hbt : W4.heap[W3.heap.size]? = some (.cells #[.int .u32 t, .slice (some ⟨bb, 0, none⟩) bs.length cap] 48 (0, 0)) := by rw [hW4]; exact heap_alloc_new _ _
    clear hW4
    have hb4 := k34.heap hb33 trivial
    have u0 : W4.cell? ⟨w.heap.size, 0, none⟩ = some (.int .u32 t) := cell_of_heap hb4
    have u1 : W4.cell? ⟨w.heap.size, 1, none⟩ = some (.slice A bs.length c) := cell_of_heap hb4
    go_wp2_with fail
    obtain ⟨W5, hW5⟩ : ∃ W, W = W4.alloc (.cells #[.int .u32 t, .slice A bs.length c] 48) := ⟨_, rfl⟩
    rw [← hW5]
    have k45 : Old W4 W5 := by rw [hW5]; exact (Keeps.refl _ _).alloc _
    have hbp : W5.heap[W4.heap.size]? = some (.cells #[.int .u32 t, .slice A bs.length c] 48 (0, 0)) := by rw [hW5]; exact heap_alloc_new _ _
    have hz5 : W5.heap.size = W4.heap.size + 1 := by rw [hW5]; simp
    clear hW5
    have k35 : Old W3 W5 := k34.trans' k45
    have KW : Keeps (· ≠ bb) w W5 := ((k02.trans' k3).old _).trans' (K33.trans' (k35.old _))
    have hzc : W.heap.size < wc.heap.size := hN.lt _ rfl
    have hz3 := k3.size
    have hz33 := K33.size
    have hz34 := k34.size
    have hFb' : wc.heap.size ≤ bb := hFb
    have hzb : bb < w3.heap.size := lt_of_heap hgb
    have hN5 := hN.keep ((k3.old _).trans (K33.trans' (k35.old _)) fun k _ h => by have h' : k = W.heap.size := h; show k ≠ bb; omega)
    have hk02 := k02.size
    have hp := put_net hN5 (c := 1) (ss := [(t, bs)]) (pks_one hbp hc (hr.keep (KW.mono fun k hk h => by have := hS k h; show k ≠ bb; omega))) fun k h => by
      have hSk := hS k
      show k < _ ∧ ¬ k = W.heap.size
      rcases h with h | h
      · omega
      · have := hSk h; omega
    rw [putS_one (by omega) hb1, hz0] at hp
    refine hp.mono ?_
    rintro e w6 ⟨rfl, F6, hN6, hF6, hK6⟩
    clear hp
    have H6 : Stp (w.heap.size + 1) W5 w6 [(t, bs)] := ⟨F6, hN6, hF6, hK6.mono fun k _ h => h⟩
    clear hN6 hF6 hK6 hN5 hN
    go_wp2_with fail
    refine (H6.spoil 0 a m E1.out).mono ?_
    clear H6 E1
    rintro e w7 ⟨rfl, H⟩
    go_wp2_with fail
    refine (H.copy 0 E2.out).mono ?_
    clear H E2
    rintro e w8 ⟨rfl, H⟩
    go_wp2_with fail
    refine (H.spoil 0 a m E3.out).mono ?_
    clear H E3
    rintro e w9 ⟨rfl, H⟩
    go_wp2_with fail
    refine (H.copy 0 E4.out).mono ?_
    clear H E4
    rintro e w10 ⟨rfl, H⟩
    go_wp2_with fail
    refine (H.spoil 1 a m E5.out).mono ?_
    clear H E5
    rintro e w11 ⟨rfl, H⟩
    go_wp2_with fail
    refine (H.copy 1 E6.out).mono ?_
    clear H E6
    rintro e w12 ⟨rfl, H⟩
    go_wp2_with fail
    refine (H.spoil 1 a m E7.out).mono ?_
    clear H E7
    rintro e w13 ⟨rfl, H⟩
    go_wp2
    obtain ⟨F, hNF, hF, hK⟩ := H
    have hg : w.heap.size ≠ w.heap.size + 1 := by omega
    have hg3 : W3.heap.size ≠ w.heap.size + 1 := by omega
    have hb13 := hK.heap (k45.heap hb4 trivial) hg
    have ht13 := hK.heap (k45.heap hbt trivial) hg3
    have q0 : w13.cell? ⟨w.heap.size, 0, none⟩ = some (.int .u32 t) := cell_of_heap hb13
    have q1 : w13.cell? ⟨w.heap.size, 1, none⟩ = some (.slice A bs.length c) := cell_of_heap hb13
    have q2 : w13.cell? ⟨W3.heap.size, 0, none⟩ = some (.int .u32 t) := cell_of_heap ht13
    have q3 : w13.cell? ⟨W3.heap.size, 1, none⟩ = some (.slice (some ⟨bb, 0, none⟩) bs.length cap) := cell_of_heap ht13
    have hold : Old w w13 := (KW.mono fun k hk _ => by show k ≠ bb; omega).trans hK fun k hk _ => by show k ≠ w.heap.size + 1; omega
    have rb : Bts (fun k => k < w.heap.size ∨ wc.heap.size ≤ k) w13 A bs := (hr.keep (hold.old _)).mono' fun k h => .inl (hS k h)
    have rs : Bts (fun k => k < w.heap.size ∨ wc.heap.size ≤ k) w13 (some ⟨bb, 0, none⟩) sp := (ow3.bts.keep ((k35.old _).trans hK fun k hk h => by have h' : wc.heap.size ≤ k := h; show k ≠ w.heap.size + 1; omega)).mono' fun k h => .inr h
    have Q := hid (And.intro hold (And.intro rb (And.intro rs hNF)))
    clear hold rb rs hNF hF hK hb13 ht13 hg hg3 hb4 hbt hbp hb33 hb2 hb3 hgb hbx hv hcx hy hfz y0 y1 z0 u0 u1 x0 x1 KW k35 k45 k34 K33 k3 k02 k12 k2 hU k1 k0 ow3
    refine wp_region_planF (fun w' => w'.cell? ⟨w.heap.size, 0, none⟩ = some (.int .u32 t) ∧ w'.cell? ⟨w.heap.size, 1, none⟩ = some (.slice A bs.length c) ∧ w'.cell? ⟨W3.heap.size, 0, none⟩ = some (.int .u32 t) ∧ w'.cell? ⟨W3.heap.size, 1, none⟩ = some (.slice (some ⟨bb, 0, none⟩) bs.length cap))
      9 [(0, none), (2, none), (3, none), (4, none), (5, none), (1, some 6), (7, some 7), (8, none)] (by kernel_rfl) (by kernel_rfl) ⟨q0, q1, q2, q3⟩ ?_
    iterate 5 (refine planF_take (v := ?_) (by rfl) (by rfl) (fun w' hS => ?_) ?_; rotate_left 1; (obtain ⟨s0, s1, s2, s3⟩ := hS; go_simp <;> (try rw [if_pos (by omega)]) <;> (try with_reducible rfl)); (simp only [Act.put, List.setIfInBounds_toArray, List.set_cons_zero, List.set_cons_succ]))
    have SM : ∀ (wz : World) (A3 : Option Addr) (c3 b : Nat), Pks (fun k => w13.heap.size ≤ k) wz A3 [(t, bs), (t, sp), (t, bs), (t, bs)] → Pks (fun k => k = b ∨ (k < w.heap.size ∨ wc.heap.size ≤ k)) wz (some ⟨b, 0, none⟩) [(t, bs), (t, sp), (t, bs), (t, bs)] →
        Calls Try.prog 33 #[.slice A3 4 c3, .slice (some ⟨b, 0, none⟩) 4 4] wz (PostSame wz true) := fun wz A3 c3 b h1 h2 =>
      sents_len wz _ _ _ _ _ _ _ _ _ _ rfl rfl h1 h2 true (decide_eq_true rfl)
    have SMH := hid SM
    clear SM
    refine planF_fork (by decide) (by rfl) (by rfl) ?_ ?_
    · refine loudly_of (by rfl) (fun K hK => ?_)
      have hl := list_net (Q.out.2.2.2.keep ((Keeps.refl _ _).drew))
      go_wp2_with (go_at_call 32; refine hl.mono ?_)
      rintro e w15 ⟨A3, c3, rfl, _, hP, k15⟩
      clear hl
      have k1315 : Old w13 w15 := k15.ofDrew
      refine hK _ _ ⟨(k1315.cell (lt_of_cell q0) trivial).trans q0, (k1315.cell (lt_of_cell q1) trivial).trans q1, (k1315.cell (lt_of_cell q2) trivial).trans q2, (k1315.cell (lt_of_cell q3) trivial).trans q3⟩ ?_
      clear hK K
      refine loudly_of (by rfl) (fun K hK => ?_)
      go_wp2
      obtain ⟨w16, hw16⟩ : ∃ W, W = w15.alloc (.cells #[.int .u32 t, .slice A bs.length c, .int .u32 t, .slice (some ⟨bb, 0, none⟩) bs.length cap, .int .u32 t, .slice A bs.length c, .int .u32 t, .slice A bs.length c] 48) := ⟨_, rfl⟩
      rw [← hw16]
      have k1516 : Old w15 w16 := by rw [hw16]; exact (Keeps.refl _ _).alloc _
      have hb16 : w16.heap[w15.heap.size]? = some (.cells #[.int .u32 t, .slice A bs.length c, .int .u32 t, .slice (some ⟨bb, 0, none⟩) bs.length cap, .int .u32 t, .slice A bs.length c, .int .u32 t, .slice A bs.length c] 48 (0, 0)) := by rw [hw16]; exact heap_alloc_new _ _
      clear hw16
      have K1316 := k1315.trans' k1516
      have SS : w16.cell? ⟨w.heap.size, 0, none⟩ = some (.int .u32 t) ∧ w16.cell? ⟨w.heap.size, 1, none⟩ = some (.slice A bs.length c) ∧ w16.cell? ⟨W3.heap.size, 0, none⟩ = some (.int .u32 t) ∧ w16.cell? ⟨W3.heap.size, 1, none⟩ = some (.slice (some ⟨bb, 0, none⟩) bs.length cap) :=
        ⟨(K1316.cell (lt_of_cell q0) trivial).trans q0, (K1316.cell (lt_of_cell q1) trivial).trans q1, (K1316.cell (lt_of_cell q2) trivial).trans q2, (K1316.cell (lt_of_cell q3) trivial).trans q3⟩
      refine hK _ _ SS ?_
      clear hK K
      have hf := pks_four HSP.out hb16 hc (by rw [HSP.out]; exact hcap) (Q.out.2.1.keep (K1316.old _)) (Q.out.2.2.1.keep (K1316.old _))
      have hP4 : Pks (fun k => w13.heap.size ≤ k) w16 A3 [(t, bs), (t, sp), (t, bs), (t, bs)] := by simpa using hP.keep (k1516.old _)
      refine planF_loud (by rfl) (loudly_of (by rfl) (fun K hK => ?_))
      go_wp2_with (go_at_call 33; refine (SMH.out _ _ _ _ hP4 hf).mono ?_)
      rintro e w17 ⟨rfl, n2, rfl⟩
      refine hK _ _ (by simpa using SS) ?_
      clear hK K
      refine planF_take (v := ?_) (by rfl) (by rfl) (fun w' hS => ?_) ?_; rotate_left 1; (go_simp <;> (try rw [if_pos (by omega)]) <;> (try with_reducible rfl)); (simp only [Act.put, List.setIfInBounds_toArray, List.set_cons_zero, List.set_cons_succ])
      refine planF_tail (by rfl) ?_
      go_wp2
      refine NoPanic.normal ?_
      go_wp2
      go_ret
      exact ⟨rfl, Q.out.1.trans' (by simpa using K1316.drewN n2)⟩
    · refine loudly_of (by rfl) (fun K hK => ?_)
      go_wp2
      obtain ⟨w15, hw15⟩ : ∃ W, W = (w13.alloc (.cells #[.int .u32 t, .slice A bs.length c, .int .u32 t, .slice (some ⟨bb, 0, none⟩) bs.length cap, .int .u32 t, .slice A bs.length c, .int .u32 t, .slice A bs.length c] 48)).drew := ⟨_, rfl⟩
      rw [← hw15]
      have k1315 : Old w13 w15 := by rw [hw15]; exact ((Keeps.refl _ _).alloc _).drew
      have hb15 : w15.heap[w13.heap.size]? = some (.cells #[.int .u32 t, .slice A bs.length c, .int .u32 t, .slice (some ⟨bb, 0, none⟩) bs.length cap, .int .u32 t, .slice A bs.length c, .int .u32 t, .slice A bs.length c] 48 (0, 0)) := by rw [hw15]; exact heap_alloc_new _ _
      clear hw15
      refine hK _ _ ⟨(k1315.cell (lt_of_cell q0) trivial).trans q0, (k1315.cell (lt_of_cell q1) trivial).trans q1, (k1315.cell (lt_of_cell q2) trivial).trans q2, (k1315.cell (lt_of_cell q3) trivial).trans q3⟩ ?_
      clear hK K
      refine loudly_of (by rfl) (fun K hK => ?_)
      have hl := list_net (Q.out.2.2.2.keep (k1315.old _))
      go_wp2_with (go_at_call 32; refine hl.mono ?_)
      rintro e w16 ⟨A3, c3, rfl, _, hP, k1516⟩
      clear hl
      have K1316 := k1315.trans' k1516
      have SS : w16.cell? ⟨w.heap.size, 0, none⟩ = some (.int .u32 t) ∧ w16.cell? ⟨w.heap.size, 1, none⟩ = some (.slice A bs.length c) ∧ w16.cell? ⟨W3.heap.size, 0, none⟩ = some (.int .u32 t) ∧ w16.cell? ⟨W3.heap.size, 1, none⟩ = some (.slice (some ⟨bb, 0, none⟩) bs.length cap) :=
        ⟨(K1316.cell (lt_of_cell q0) trivial).trans q0, (K1316.cell (lt_of_cell q1) trivial).trans q1, (K1316.cell (lt_of_cell q2) trivial).trans q2, (K1316.cell (lt_of_cell q3) trivial).trans q3⟩
      refine hK _ _ SS ?_
      clear hK K
      have hb16 := k1516.heap hb15 trivial
      have hf := pks_four HSP.out hb16 hc (by rw [HSP.out]; exact hcap) (Q.out.2.1.keep (K1316.old _)) (Q.out.2.2.1.keep (K1316.old _))
      have hP4 : Pks (fun k => w13.heap.size ≤ k) w16 A3 [(t, bs), (t, sp), (t, bs), (t, bs)] := hP.mono fun k _ h => by have h1 : w15.heap.size ≤ k := h; have := k1315.size; show w13.heap.size ≤ k; omega
      refine planF_loud (by rfl) (loudly_of (by rfl) (fun K hK => ?_))
      go_wp2_with (go_at_call 33; refine (SMH.out _ _ _ _ hP4 hf).mono ?_)
      rintro e w17 ⟨rfl, n2, rfl⟩
      refine hK _ _ (by simpa using SS) ?_
      clear hK K
      refine planF_take (v := ?_) (by rfl) (by rfl) (fun w' hS => ?_) ?_; rotate_left 1; (go_simp <;> (try rw [if_pos (by omega)]) <;> (try with_reducible rfl)); (simp only [Act.put, List.setIfInBounds_toArray, List.set_cons_zero, List.set_cons_succ])
      refine planF_tail (by rfl) ?_
      go_wp2
      refine NoPanic.normal ?_
      go_wp2
      go_ret
      exact ⟨rfl, Q.out.1.trans' (by simpa using K1316.drewN n2)⟩
end Go.Proofs.Ytgnndggbjipioaa
