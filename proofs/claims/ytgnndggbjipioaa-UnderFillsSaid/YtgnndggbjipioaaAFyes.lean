/- weftlaw18.framed, where the packet that is asked for is there and is taken, lost, doubled or refused: it answers true. Conditions: the net stands whole. -/
import Derived.Test.YtgnndggbjipioaaAFno
import Derived.Test.YtgnndggbjipioaaAPlan2
namespace Go.Proofs.Ytgnndggbjipioaa
open Go.RowKit

/-- One packet, in a block of its own. -/
theorem pks_one {G : Nat → Prop} {w : World} {b c : Nat} {t : Int} {A : Option Addr} {bs : List UInt8} (hb : w.heap[b]? = some (.cells #[.int .u32 t, .slice A bs.length c] 48 (0, 0))) (hc : bs.length ≤ c) (hr : Bts G w A bs) :
    Pks (fun k => k = b ∨ G k) w (some ⟨b, 0, none⟩) [(t, bs)] := by
  refine ⟨by simp, fun _ => ⟨b, 0, rfl, .inl rfl, fun i hi => ?_⟩⟩
  obtain rfl : i = 0 := by simpa using hi
  exact ⟨A, c, cell_of_heap hb, cell_of_heap hb, hc, hr.1, fun hn => by
    obtain ⟨b', o', e, h1, h2⟩ := hr.2 hn
    exact ⟨b', o', e, .inr h1, h2⟩⟩

set_option maxRecDepth 10000 in
set_option maxHeartbeats 4000000 in
theorem framed_take_yes (w : World) (F : Nat → Prop) (g lim : Nat) (ps : List Pk) (j : Nat) (at_ : Int) (m : UInt8) (A : Option Addr) (n c : Nat) (hN : NetU F w g lim ps) (hj : j < ps.length) :
    Calls Try.prog 26 #[.pointer (some ⟨g, 0, none⟩), .agg #[.int .i64 2, .slice A n c, .int .i64 (j : Int), .int .i64 at_, .int .u8 m.toNat], .int .i64 (lim : Int)] w (PostFr F w g lim) := by
  have k0 : Old w (w.alloc (.cells #[.int .i64 2, .slice A n c, .int .i64 (j : Int), .int .i64 at_, .int .u8 m.toNat] 36)) := (Keeps.refl _ _).alloc _
  have hbx : (w.alloc (.cells #[.int .i64 2, .slice A n c, .int .i64 (j : Int), .int .i64 at_, .int .u8 m.toNat] 36)).heap[w.heap.size]? = some (.cells #[.int .i64 2, .slice A n c, .int .i64 (j : Int), .int .i64 at_, .int .u8 m.toNat] 36 (0, 0)) := heap_alloc_new _ _
  have hFlt := hN.lt
  have hroom := hN.room
  have hmost := hN.most
  have hps : ps.length ≤ 4096 := by omega
  have ht0 := ftakeS_yes hj
  go_enter Try.func26, Try.ntmps26
  go_wp2_with fail
  refine (list_net (hN.keep (k0.old F))).mono ?_
  rintro e w1 ⟨A1, c1, rfl, hc1, hP1, k1⟩
  have k01 := k0.trans' k1
  have hb1 := k1.heap hbx trivial
  have x0 : w1.cell? ⟨w.heap.size, 0, none⟩ = some (.int .i64 2) := cell_of_heap hb1
  have x2 : w1.cell? ⟨w.heap.size, 2, none⟩ = some (.int .i64 (j : Int)) := cell_of_heap hb1
  have ht := take_net (hN.keep (k01.old F)) (j : Int)
  rw [ht0] at ht
  obtain ⟨⟨t, bs⟩, hp⟩ : ∃ p, ps[j] = p := ⟨_, rfl⟩
  rw [hp] at ht
  have hel : (ps.eraseIdx j).length ≤ 4096 := by rw [List.length_eraseIdx]; split <;> omega
  have e1 : [(t, bs)] = (ps.drop j).take 1 := by rw [← hp, List.drop_eq_getElem_cons hj]; rfl
  have E1 := hid e1
  clear hp e1 ht0
  go_wp2_with fail
  refine ht.mono ?_
  clear ht x0 x2 hbx
  rintro e w2 ⟨A2, c2, F2, G2, rfl, hN2, hb2, hc2, hF2, hG2, hFG, hK2⟩
  have k2s : Old w2 (w2.alloc (.cells #[.int .u32 t, .slice A2 bs.length c2] 48)) := (Keeps.refl _ _).alloc _
  have hs9 : (w2.alloc (.cells #[.int .u32 t, .slice A2 bs.length c2] 48)).heap[w2.heap.size]? = some (.cells #[.int .u32 t, .slice A2 bs.length c2] 48 (0, 0)) := heap_alloc_new _ _
  have hl := list_net (hN2.keep (k2s.old F2))
  go_wp2_with fail
  refine hl.mono ?_
  clear hl
  rintro e w3 ⟨A3, c3, rfl, hc3, hP3, k3⟩
  have k23 := k2s.trans' k3
  have hz1 := k01.size
  have hz1' := k1.size
  have hz2 := hK2.size
  have hz3 := k23.size
  have hbx3 := (k23.heap (hK2.heap hb1 fun h => Nat.lt_irrefl _ (hFlt _ h)) trivial)
  have hs3 := k3.heap hs9 trivial
  have x2 : w3.cell? ⟨w.heap.size, 2, none⟩ = some (.int .i64 (j : Int)) := cell_of_heap hbx3
  have y0 : w3.cell? ⟨w2.heap.size, 0, none⟩ = some (.int .u32 t) := cell_of_heap hs3
  have y1 : w3.cell? ⟨w2.heap.size, 1, none⟩ = some (.slice A2 bs.length c2) := cell_of_heap hs3
  have hFF : ∀ k, F2 k → F k ∨ w.heap.size ≤ k := fun k h => .inl (hF2 k h)
  have hP1' := (hP1.keep (hK2.mono fun k _ h hf => by have := hFlt k hf; simp at h; omega)).keep (k23.old _)
  have hb3 := hb2.keep (k23.old _)
  have hK3 : Keeps (fun k => ¬ F k) w w3 := ((k01.old _).trans' hK2).trans' (k23.old _)
  have hz4 : w.heap.size < w3.heap.size := lt_of_heap hbx3
  have hz5 : w2.heap.size < w3.heap.size := lt_of_heap hs3
  have HZ := hid (And.intro hz1 (And.intro hz1' (And.intro hz2 (And.intro hz3 (And.intro hz4 hz5)))))
  clear hs9 k3 k2s hz1 hz1' hz2 hz3 hz4 hz5
  go_wp2
  have i1 : IntKind.i64.wrap ((j : Int) + 1) = (j : Int) + 1 := by rw [IntKind.wrap_i64]; omega
  have i2 : ((j : Int) + 1).toNat = j + 1 := by omega
  have i3 : (0 : Int) ≤ (j : Int) + 1 := by omega
  have i4 : j + 1 ≤ c1 := by omega
  have i5 : j ≤ c1 := by omega
  have i6 : (j : Int) ≤ (j : Int) + 1 := by omega
  have i7 : j ≤ ps.length := by omega
  have i8 : j + 1 ≤ ps.length := by omega
  have i9 : j ≤ j + 1 := by omega
  refine wp_region_planP (fun w' => w'.cell? ⟨w.heap.size, 2, none⟩ = some (.int .i64 (j : Int)) ∧ w'.cell? ⟨w2.heap.size, 0, none⟩ = some (.int .u32 t) ∧ w'.cell? ⟨w2.heap.size, 1, none⟩ = some (.slice A2 bs.length c2))
    22 (tks [0, 1, 2, 3, 5, 6, 7, 8, 9, 10, 11] ++ lds [4, 12] ++ tks [13, 14, 15, 16, 17, 18] ++ lds [19] ++ tks [20, 21]) (by kernel_rfl) (by kernel_rfl) ⟨x2, y0, y1⟩ ?_
  iterate 11 (refine planP_take (v := ?_) (by rfl) (by rfl) (fun w' hS => ?_) ?_; rotate_left 1; (obtain ⟨s0, s1, s2⟩ := hS; go_simp <;> (try rw [if_pos (by omega)]) <;> (try with_reducible rfl)); (simp only [Act.put, List.setIfInBounds_toArray, List.set_cons_zero, List.set_cons_succ]))
  obtain ⟨X, hX⟩ : ∃ X, X = (if c1 = j then A1 else Option.map (fun x => x.add (j * 2)) A1) := ⟨_, rfl⟩
  rw [← hX]
  have pX : ∀ (w' : World) (T : Nat → Prop), Pks T w' A1 ps → Pks T w' X ((ps.drop j).take 1) := fun w' T h => h.part (by omega) fun hlt b' o' e => by
    rw [hX, if_neg (by omega), e]
    simp [Addr.add_lit]
  have PX := hid pX
  clear pX hX
  refine planP_loud (by rfl) (by rfl) (fun K hK => ?_)
  go_wp2
  obtain ⟨W4, hW4⟩ : ∃ W, W = (w3.alloc (.cells #[.int .u32 t, .slice A2 bs.length c2] 48)).drew := ⟨_, rfl⟩
  rw [← hW4]
  have k4 : Old w3 W4 := by subst hW4; exact ((Keeps.refl _ _).alloc _).drew
  have hs4 : W4.heap[w3.heap.size]? = some (.cells #[.int .u32 t, .slice A2 bs.length c2] 48 (0, 0)) := by subst hW4; exact heap_alloc_new _ _
  refine hK _ _ ⟨(k4.cell (lt_of_cell x2) trivial).trans x2, (k4.cell (lt_of_cell y0) trivial).trans y0, (k4.cell (lt_of_cell y1) trivial).trans y1⟩ ?_
  clear hK K hW4
  have hone := pks_one hs4 hc2 (hb3.keep (k4.old _))
  have hP4 := hP1'.keep (k4.old _)
  refine planP_loud (by rfl) (by rfl) (fun K hK => ?_)
  go_wp2_with (go_at_call 33; refine (sents_len _ _ _ _ _ _ _ _ _ [(t, bs)] ((ps.drop j).take 1) (by simp) (by simp; omega) hone (PX.out _ _ hP4) true (decide_eq_true E1.out)).mono ?_)
  rintro e w5 ⟨rfl, n1, rfl⟩
  have k5 : Old w3 (W4.drewN n1) := k4.trans' ((Keeps.refl _ _).drewN _)
  refine hK _ _ ⟨(k5.cell (lt_of_cell x2) trivial).trans x2, (k5.cell (lt_of_cell y0) trivial).trans y0, (k5.cell (lt_of_cell y1) trivial).trans y1⟩ ?_
  clear hK K
  iterate 6 (refine planP_take (v := ?_) (by rfl) (by rfl) (fun w' hS => ?_) ?_; rotate_left 1; (obtain ⟨s0, s1, s2⟩ := hS; go_simp <;> (try rw [if_pos (by omega)]) <;> (try with_reducible rfl)); (simp only [Act.put, List.setIfInBounds_toArray, List.set_cons_zero, List.set_cons_succ]))
  refine planP_loud (by rfl) (by rfl) (fun K hK => ?_)
  have hg := gone_any (W4.drewN n1) _ _ A1 A3 c1 c3 j ps (ps.eraseIdx j) (hP1'.keep (k5.old _)) (hP3.keep (k5.old _)) hc1 hc3 hj rfl
  go_wp2_with fail
  refine hg.mono ?_
  clear hg
  rintro e w6 ⟨rfl, n2, rfl⟩
  have k6 : Old w3 ((W4.drewN n1).drewN n2) := k5.trans' ((Keeps.refl _ _).drewN _)
  refine hK _ _ ⟨(k6.cell (lt_of_cell x2) trivial).trans x2, (k6.cell (lt_of_cell y0) trivial).trans y0, (k6.cell (lt_of_cell y1) trivial).trans y1⟩ ?_
  clear hK K
  iterate 2 (refine planP_take (v := ?_) (by rfl) (by rfl) (fun w' hS => ?_) ?_; rotate_left 1; (obtain ⟨s0, s1, s2⟩ := hS; go_simp <;> (try rw [if_pos (by omega)]) <;> (try with_reducible rfl)); (simp only [Act.put, List.setIfInBounds_toArray, List.set_cons_zero, List.set_cons_succ]))
  refine planP_tail (by rfl) ?_
  go_wp2
  refine NoPanic.normal ?_
  go_wp2
  go_ret
  exact ⟨rfl, F2, ps.eraseIdx j, (hN2.keep (k23.old _)).keep (by simpa using k6.old F2), hFF, hK3.trans' (by simpa using k6.old fun k => ¬ F k)⟩

theorem floseS_yes {j : Nat} {ps : List Pk} (h : j < ps.length) : loseS j ps = (0, ps.eraseIdx j) := by unfold loseS; rw [ftakeS_yes h]
theorem fcopyS_full {lim j : Nat} {ps : List Pk} (h : j < ps.length) (hf : lim ≤ ps.length) : copyS lim j ps = (4, ps) := by unfold copyS; rw [dif_pos ⟨by omega, by omega⟩, if_pos hf]
theorem fcopyS_yes {lim j : Nat} {ps : List Pk} (h : j < ps.length) (hf : ¬ lim ≤ ps.length) : copyS lim j ps = (0, ps ++ [ps[j]]) := by
  unfold copyS
  rw [dif_pos ⟨by omega, by omega⟩, if_neg hf]
  simp

set_option maxRecDepth 10000 in
set_option maxHeartbeats 4000000 in
theorem framed_lose_yes (w : World) (F : Nat → Prop) (g lim : Nat) (ps : List Pk) (j : Nat) (at_ : Int) (m : UInt8) (A : Option Addr) (n c : Nat) (hN : NetU F w g lim ps) (hj : j < ps.length) :
    Calls Try.prog 26 #[.pointer (some ⟨g, 0, none⟩), .agg #[.int .i64 4, .slice A n c, .int .i64 (j : Int), .int .i64 at_, .int .u8 m.toNat], .int .i64 (lim : Int)] w (PostFr F w g lim) := by
  have k0 : Old w (w.alloc (.cells #[.int .i64 4, .slice A n c, .int .i64 (j : Int), .int .i64 at_, .int .u8 m.toNat] 36)) := (Keeps.refl _ _).alloc _
  have hbx : (w.alloc (.cells #[.int .i64 4, .slice A n c, .int .i64 (j : Int), .int .i64 at_, .int .u8 m.toNat] 36)).heap[w.heap.size]? = some (.cells #[.int .i64 4, .slice A n c, .int .i64 (j : Int), .int .i64 at_, .int .u8 m.toNat] 36 (0, 0)) := heap_alloc_new _ _
  have hFlt := hN.lt
  have hroom := hN.room
  have hmost := hN.most
  have hps : ps.length ≤ 4096 := by omega
  have ht0 := floseS_yes hj
  go_enter Try.func26, Try.ntmps26
  go_wp2_with fail
  refine (list_net (hN.keep (k0.old F))).mono ?_
  rintro e w1 ⟨A1, c1, rfl, hc1, hP1, k1⟩
  have k01 := k0.trans' k1
  have hb1 := k1.heap hbx trivial
  have x0 : w1.cell? ⟨w.heap.size, 0, none⟩ = some (.int .i64 4) := cell_of_heap hb1
  have x2 : w1.cell? ⟨w.heap.size, 2, none⟩ = some (.int .i64 (j : Int)) := cell_of_heap hb1
  have ht := lose_net (hN.keep (k01.old F)) (j : Int)
  rw [ht0] at ht
  go_wp2_with fail
  refine ht.mono ?_
  clear ht x0 x2 hbx
  rintro e w2 ⟨rfl, F2, hN2, hF2, hK2⟩
  have hl := list_net hN2
  go_wp2_with fail
  refine hl.mono ?_
  clear hl
  rintro e w3 ⟨A3, c3, rfl, hc3, hP3, k23⟩
  have hz1 := k01.size
  have hz1' := k1.size
  have hbx3 := (k23.heap (hK2.heap hb1 fun h => Nat.lt_irrefl _ (hFlt _ h)) trivial)
  have x2 : w3.cell? ⟨w.heap.size, 2, none⟩ = some (.int .i64 (j : Int)) := cell_of_heap hbx3
  have hFF : ∀ k, F2 k → F k ∨ w.heap.size ≤ k := fun k h => (hF2 k h).imp id fun h => by omega
  have hP1' := (hP1.keep (hK2.mono fun k _ h hf => by have := hFlt k hf; simp at h; omega)).keep (k23.old _)
  have hK3 : Keeps (fun k => ¬ F k) w w3 := ((k01.old _).trans' hK2).trans' (k23.old _)
  have hel : (ps.eraseIdx j).length ≤ 4096 := by rw [List.length_eraseIdx]; split <;> omega
  have hg := gone_any w3 _ _ A1 A3 c1 c3 j ps (ps.eraseIdx j) hP1' hP3 hc1 hc3 hj rfl
  go_wp2_with fail
  refine hg.mono ?_
  rintro e w6 ⟨rfl, n2, rfl⟩
  go_wp2
  go_ret
  exact ⟨rfl, F2, ps.eraseIdx j, (hN2.keep (k23.old _)).keep ((Keeps.refl _ _).drewN _), hFF, hK3.trans' ((Keeps.refl _ _).drewN _)⟩

set_option maxRecDepth 10000 in
set_option maxHeartbeats 4000000 in
theorem framed_copy_full (w : World) (F : Nat → Prop) (g lim : Nat) (ps : List Pk) (j : Nat) (at_ : Int) (m : UInt8) (A : Option Addr) (n c : Nat) (hN : NetU F w g lim ps) (hj : j < ps.length) (hf : lim ≤ ps.length) :
    Calls Try.prog 26 #[.pointer (some ⟨g, 0, none⟩), .agg #[.int .i64 3, .slice A n c, .int .i64 (j : Int), .int .i64 at_, .int .u8 m.toNat], .int .i64 (lim : Int)] w (PostFr F w g lim) := by
  have k0 : Old w (w.alloc (.cells #[.int .i64 3, .slice A n c, .int .i64 (j : Int), .int .i64 at_, .int .u8 m.toNat] 36)) := (Keeps.refl _ _).alloc _
  have hbx : (w.alloc (.cells #[.int .i64 3, .slice A n c, .int .i64 (j : Int), .int .i64 at_, .int .u8 m.toNat] 36)).heap[w.heap.size]? = some (.cells #[.int .i64 3, .slice A n c, .int .i64 (j : Int), .int .i64 at_, .int .u8 m.toNat] 36 (0, 0)) := heap_alloc_new _ _
  have hFlt := hN.lt
  have hroom := hN.room
  have hmost := hN.most
  have hps : ps.length ≤ 4096 := by omega
  have ht0 := fcopyS_full hj hf
  go_enter Try.func26, Try.ntmps26
  go_wp2_with fail
  refine (list_net (hN.keep (k0.old F))).mono ?_
  rintro e w1 ⟨A1, c1, rfl, hc1, hP1, k1⟩
  have k01 := k0.trans' k1
  have hb1 := k1.heap hbx trivial
  have x0 : w1.cell? ⟨w.heap.size, 0, none⟩ = some (.int .i64 3) := cell_of_heap hb1
  have x2 : w1.cell? ⟨w.heap.size, 2, none⟩ = some (.int .i64 (j : Int)) := cell_of_heap hb1
  have ht := copy_net (hN.keep (k01.old F)) (j : Int)
  rw [ht0] at ht
  go_wp2_with fail
  refine ht.mono ?_
  clear ht x0 x2 hbx
  rintro e w2 ⟨rfl, F2, hN2, hF2, hK2⟩
  have hl := list_net hN2
  go_wp2_with fail
  refine hl.mono ?_
  clear hl
  rintro e w3 ⟨A3, c3, rfl, hc3, hP3, k23⟩
  have hz1 := k01.size
  have hz1' := k1.size
  have hbx3 := (k23.heap (hK2.heap hb1 fun h => Nat.lt_irrefl _ (hFlt _ h)) trivial)
  have x2 : w3.cell? ⟨w.heap.size, 2, none⟩ = some (.int .i64 (j : Int)) := cell_of_heap hbx3
  have hFF : ∀ k, F2 k → F k ∨ w.heap.size ≤ k := fun k h => (hF2 k h).imp id fun h => by omega
  have hP1' := (hP1.keep (hK2.mono fun k _ h hf => by have := hFlt k hf; simp at h; omega)).keep (k23.old _)
  have hK3 : Keeps (fun k => ¬ F k) w w3 := ((k01.old _).trans' hK2).trans' (k23.old _)
  have hsm := sents_any w3 _ _ A1 A3 c1 c3 ps ps hP1' hP3
  rw [decide_eq_true (show ps = ps from rfl)] at hsm
  have i1 : (lim : Int) ≤ (ps.length : Int) := by omega
  go_wp2_with fail
  refine hsm.mono ?_
  rintro e w6 ⟨rfl, n2, rfl⟩
  go_wp2
  go_ret
  exact ⟨rfl, F2, ps, (hN2.keep (k23.old _)).keep ((Keeps.refl _ _).drewN _), hFF, hK3.trans' ((Keeps.refl _ _).drewN _)⟩

set_option maxRecDepth 10000 in
set_option maxHeartbeats 4000000 in
theorem framed_copy_yes (w : World) (F : Nat → Prop) (g lim : Nat) (ps : List Pk) (j : Nat) (at_ : Int) (m : UInt8) (A : Option Addr) (n c : Nat) (hN : NetU F w g lim ps) (hj : j < ps.length) (hf : ¬ lim ≤ ps.length) :
    Calls Try.prog 26 #[.pointer (some ⟨g, 0, none⟩), .agg #[.int .i64 3, .slice A n c, .int .i64 (j : Int), .int .i64 at_, .int .u8 m.toNat], .int .i64 (lim : Int)] w (PostFr F w g lim) := by
  have k0 : Old w (w.alloc (.cells #[.int .i64 3, .slice A n c, .int .i64 (j : Int), .int .i64 at_, .int .u8 m.toNat] 36)) := (Keeps.refl _ _).alloc _
  have hbx : (w.alloc (.cells #[.int .i64 3, .slice A n c, .int .i64 (j : Int), .int .i64 at_, .int .u8 m.toNat] 36)).heap[w.heap.size]? = some (.cells #[.int .i64 3, .slice A n c, .int .i64 (j : Int), .int .i64 at_, .int .u8 m.toNat] 36 (0, 0)) := heap_alloc_new _ _
  have hFlt := hN.lt
  have hroom := hN.room
  have hmost := hN.most
  have hps : ps.length ≤ 4096 := by omega
  have ht0 := fcopyS_yes hj hf
  go_enter Try.func26, Try.ntmps26
  go_wp2_with fail
  refine (list_net (hN.keep (k0.old F))).mono ?_
  rintro e w1 ⟨A1, c1, rfl, hc1, hP1, k1⟩
  have k01 := k0.trans' k1
  have hb1 := k1.heap hbx trivial
  have x0 : w1.cell? ⟨w.heap.size, 0, none⟩ = some (.int .i64 3) := cell_of_heap hb1
  have x2 : w1.cell? ⟨w.heap.size, 2, none⟩ = some (.int .i64 (j : Int)) := cell_of_heap hb1
  have ht := copy_net (hN.keep (k01.old F)) (j : Int)
  rw [ht0] at ht
  go_wp2_with fail
  refine ht.mono ?_
  clear ht x0 x2 hbx
  rintro e w2 ⟨rfl, F2, hN2, hF2, hK2⟩
  have hl := list_net hN2
  go_wp2_with fail
  refine hl.mono ?_
  clear hl
  rintro e w3 ⟨A3, c3, rfl, hc3, hP3, k23⟩
  have hz1 := k01.size
  have hz1' := k1.size
  have hbx3 := (k23.heap (hK2.heap hb1 fun h => Nat.lt_irrefl _ (hFlt _ h)) trivial)
  have x2 : w3.cell? ⟨w.heap.size, 2, none⟩ = some (.int .i64 (j : Int)) := cell_of_heap hbx3
  have hFF : ∀ k, F2 k → F k ∨ w.heap.size ≤ k := fun k h => (hF2 k h).imp id fun h => by omega
  have hP1' := (hP1.keep (hK2.mono fun k _ h hf => by have := hFlt k hf; simp at h; omega)).keep (k23.old _)
  have hK3 : Keeps (fun k => ¬ F k) w w3 := ((k01.old _).trans' hK2).trans' (k23.old _)
  have i0 : ¬ (lim : Int) ≤ (ps.length : Int) := by omega
  have i1 : IntKind.i64.wrap ((j : Int) + 1) = (j : Int) + 1 := by rw [IntKind.wrap_i64]; omega
  have i2 : ((j : Int) + 1).toNat = j + 1 := by omega
  have i3 : (0 : Int) ≤ (j : Int) + 1 := by omega
  have i4 : j + 1 ≤ c1 := by omega
  have i5 : j ≤ c1 := by omega
  have i6 : (j : Int) ≤ (j : Int) + 1 := by omega
  have i7 : j ≤ ps.length := by omega
  have i8 : j + 1 ≤ ps.length := by omega
  have i9 : j ≤ j + 1 := by omega
  have hc3' : ps.length + 1 ≤ c3 := by simpa using hc3
  have i10 : IntKind.i64.wrap ((ps.length : Int) + 1) = (ps.length : Int) + 1 := by rw [IntKind.wrap_i64]; omega
  have i11 : ps.length ≤ ps.length + 1 := by omega
  have i12 : ps.length ≤ c3 := by omega
  have i13 : (0 : Int) ≤ (ps.length : Int) := by omega
  have E1 : Hid (ps = ((ps ++ [ps[j]]).drop 0).take ps.length) := hid (by simp)
  have E2 : Hid (((ps ++ [ps[j]]).drop ps.length).take 1 = (ps.drop j).take 1) := hid (by rw [List.drop_left', List.drop_eq_getElem_cons hj]; rfl; rfl)
  go_wp2
  refine wp_region_planP (fun w' => w'.cell? ⟨w.heap.size, 2, none⟩ = some (.int .i64 (j : Int)))
    33 (tks (List.range 16) ++ lds [16] ++ tks [17, 18, 19, 20, 21, 22, 23, 24, 25, 26, 27, 28, 29] ++ lds [30] ++ tks [31, 32]) (by kernel_rfl) (by kernel_rfl) x2 ?_
  iterate 16 (refine planP_take (v := ?_) (by rfl) (by rfl) (fun w' hS => ?_) ?_; rotate_left 1; (go_simp <;> (try rw [if_pos (by omega)]) <;> (try with_reducible rfl)); (simp only [Act.put, List.setIfInBounds_toArray, List.set_cons_zero, List.set_cons_succ]))
  refine planP_loud (by rfl) (by rfl) (fun K hK => ?_)
  go_wp2_with (go_at_call 33; refine (sents_len _ _ _ _ _ _ _ _ _ ps (((ps ++ [ps[j]]).drop 0).take ps.length) (by simp) (by simp) (hP1'.keep ((Keeps.refl _ _).drewN _)) (Pks.part (hP3.keep ((Keeps.refl _ _).drewN _)) (by simp) (fun _ _ _ e => by rw [e]; rfl)) true (decide_eq_true E1.out)).mono ?_)
  rintro e w5 ⟨rfl, n1, rfl⟩
  refine hK _ _ x2 ?_
  clear hK K
  iterate 13 (refine planP_take (v := ?_) (by rfl) (by rfl) (fun w' hS => ?_) ?_; rotate_left 1; (go_simp <;> (try rw [if_pos (by omega)]) <;> (try with_reducible rfl)); (simp only [Act.put, List.setIfInBounds_toArray, List.set_cons_zero, List.set_cons_succ]))
  obtain ⟨X, hX⟩ : ∃ X, X = (if c1 = j then A1 else Option.map (fun x => x.add (j * 2)) A1) := ⟨_, rfl⟩
  obtain ⟨Y, hY⟩ : ∃ X, X = (if c3 = ps.length then A3 else Option.map (fun x => x.add (ps.length * 2)) A3) := ⟨_, rfl⟩
  rw [← hX, ← hY]
  have pX : ∀ (w' : World) (T : Nat → Prop), Pks T w' A1 ps → Pks T w' X ((ps.drop j).take 1) := fun w' T h => h.part (by omega) fun hlt b' o' e => by
    rw [hX, if_neg (by omega), e]
    simp [Addr.add_lit]
  have pY : ∀ (w' : World) (T : Nat → Prop), Pks T w' A3 (ps ++ [ps[j]]) → Pks T w' Y (((ps ++ [ps[j]]).drop ps.length).take 1) := fun w' T h => h.part (by simp) fun hlt b' o' e => by
    rw [hY, if_neg (by omega), e]
    simp [Addr.add_lit]
  have PX := hid pX
  have PY := hid pY
  clear pX hX pY hY
  refine planP_loud (by rfl) (by rfl) (fun K hK => ?_)
  go_wp2_with (go_at_call 33; refine (sents_len _ _ _ _ _ _ _ _ _ (((ps ++ [ps[j]]).drop ps.length).take 1) ((ps.drop j).take 1) (by simp) (by simp; omega) (PY.out _ _ (hP3.keep ((Keeps.refl _ _).drewN _))) (PX.out _ _ (hP1'.keep ((Keeps.refl _ _).drewN _))) true (decide_eq_true E2.out)).mono ?_)
  rintro e w5 ⟨rfl, n2, rfl⟩
  refine hK _ _ x2 ?_
  clear hK K
  iterate 2 (refine planP_take (v := ?_) (by rfl) (by rfl) (fun w' hS => ?_) ?_; rotate_left 1; (go_simp <;> (try rw [if_pos (by omega)]) <;> (try with_reducible rfl)); (simp only [Act.put, List.setIfInBounds_toArray, List.set_cons_zero, List.set_cons_succ]))
  refine planP_tail (by rfl) ?_
  go_wp2
  refine NoPanic.normal ?_
  go_wp2
  go_ret
  exact ⟨rfl, F2, ps ++ [ps[j]], (hN2.keep (k23.old _)).keep ((Keeps.refl _ _).drewN _), hFF, hK3.trans' ((Keeps.refl _ _).drewN _)⟩
end Go.Proofs.Ytgnndggbjipioaa
