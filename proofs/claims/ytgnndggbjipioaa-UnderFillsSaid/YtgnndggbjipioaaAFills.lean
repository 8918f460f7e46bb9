/- weftlaw18.UnderFills: just limit packets are in flight, and no more: true. Conditions: the packet can be read. -/
import Derived.Test.YtgnndggbjipioaaASpoil
namespace Go.Proofs.Ytgnndggbjipioaa
open Go.RowKit

theorem pks_two {G : Nat → Prop} {w : World} {b c : Nat} {t : Int} {A : Option Addr} {xs : List UInt8} (hb : w.heap[b]? = some (.cells #[.int .u32 t, .slice A xs.length c, .int .u32 t, .slice A xs.length c] 48 (0, 0)))
    (hc : xs.length ≤ c) (hx : Bts G w A xs) : Pks (fun k => k = b ∨ G k) w (some ⟨b, 0, none⟩) [(t, xs), (t, xs)] := by
  refine ⟨by simp, fun _ => ⟨b, 0, rfl, .inl rfl, fun i hi => ?_⟩⟩
  have hi4 : i = 0 ∨ i = 1 := by simp at hi; omega
  rcases hi4 with rfl | rfl
  · exact ⟨A, c, cell_of_heap hb, cell_of_heap hb, hc, hx.mono' fun _ h => .inr h⟩
  · exact ⟨A, c, cell_of_heap hb, cell_of_heap hb, hc, hx.mono' fun _ h => .inr h⟩

theorem putS_full {lim : Nat} {ps ss : List Pk} {s : Pk} (hl : lim ≤ ps.length) (h : s.2.length ≤ 65535) : putS lim ps (s :: ss) = (0, 4, ps) := by
  rw [putS, if_neg (by omega), if_pos (by omega)]
theorem putS_next {lim : Nat} {ps ss : List Pk} {s : Pk} {r : Nat × Int × List Pk} (hl : ps.length < lim) (h : s.2.length ≤ 65535) (e : putS lim (ps ++ [s]) ss = r) : putS lim ps (s :: ss) = (r.1 + 1, r.2.1, r.2.2) := by
  rw [putS, if_neg (by omega), if_neg (by omega), e]

/-- The net of UnderFills: what is in flight, and the packet's box. -/
def Fil (w : World) (t : Int) (A : Option Addr) (n c lm : Nat) (ps : List Pk) (wr : World) : Prop :=
  ∃ F, NetU F wr (w.heap.size + 1) lm ps ∧ wr.heap[w.heap.size]? = some (.cells #[.int .u32 t, .slice A n c] 48 (0, 0)) ∧ Old w wr ∧ ∀ j, F j → w.heap.size < j

theorem Fil.step {w : World} {t : Int} {A : Option Addr} {n c lm : Nat} {ps' : List Pk} {F F' : Nat → Prop} {wr w' : World} (hb : wr.heap[w.heap.size]? = some (.cells #[.int .u32 t, .slice A n c] 48 (0, 0))) (hold : Old w wr)
    (hF : ∀ j, F j → w.heap.size < j) (hN : NetU F' w' (w.heap.size + 1) lm ps') (hF' : ∀ k, F' k → F k ∨ wr.heap.size ≤ k) (hK : Keeps (fun k => ¬ F k) wr w') : Fil w t A n c lm ps' w' :=
  ⟨F', hN, hK.heap hb fun h => by have := hF _ h; omega, hold.trans hK fun j hj _ h => by have := hF j h; omega, fun j h => by
    have h1 := lt_of_heap hb
    rcases hF' j h with h | h
    · exact hF j h
    · omega⟩
theorem Fil.alloc {w : World} {t : Int} {A : Option Addr} {n c lm : Nat} {ps : List Pk} {wr : World} (H : Fil w t A n c lm ps wr) (o : Obj) : Fil w t A n c lm ps (wr.alloc o) := by
  obtain ⟨F, hN, hb, hold, hF⟩ := H
  have k : Old wr (wr.alloc o) := (Keeps.refl _ _).alloc _
  exact ⟨F, hN.keep (k.old _), k.heap hb trivial, hold.trans' k, hF⟩
theorem Fil.copy {w : World} {t : Int} {A : Option Addr} {n c lm : Nat} {ps ps' : List Pk} {wr : World} {i z : Int} (H : Fil w t A n c lm ps wr) (e : copyS lm i ps = (z, ps')) :
    Calls Try.prog 29 #[.pointer (some ⟨w.heap.size + 1, 0, none⟩), .int .i64 i] wr fun e w' => e = .returned (.int .i64 z) ∧ Fil w t A n c lm ps' w' := by
  obtain ⟨F, hN, hb, hold, hF⟩ := H
  have h := copy_net hN i
  rw [e] at h
  refine h.mono ?_
  rintro e w' ⟨rfl, F', h1, h2, h3⟩
  exact ⟨rfl, Fil.step hb hold hF h1 h2 h3⟩
theorem Fil.lose {w : World} {t : Int} {A : Option Addr} {n c lm : Nat} {ps ps' : List Pk} {wr : World} {i z : Int} (H : Fil w t A n c lm ps wr) (e : loseS i ps = (z, ps')) :
    Calls Try.prog 30 #[.pointer (some ⟨w.heap.size + 1, 0, none⟩), .int .i64 i] wr fun e w' => e = .returned (.int .i64 z) ∧ Fil w t A n c lm ps' w' := by
  obtain ⟨F, hN, hb, hold, hF⟩ := H
  have h := lose_net hN i
  rw [e] at h
  refine h.mono ?_
  rintro e w' ⟨rfl, F', h1, h2, h3⟩
  exact ⟨rfl, Fil.step hb hold hF h1 h2 h3⟩
theorem Fil.put1 {w : World} {S : Nat → Prop} {t : Int} {A : Option Addr} {c lm : Nat} {bs : List UInt8} {ps ps' : List Pk} {wr : World} {m : Nat} {z : Int} (H : Fil w t A bs.length c lm ps wr) (hr : Bts S w A bs) (hc : bs.length ≤ c) (hS : ∀ k, S k → k < w.heap.size)
    (e : putS lm ps [(t, bs)] = (m, z, ps')) :
    Calls Try.prog 27 #[.pointer (some ⟨w.heap.size + 1, 0, none⟩), .slice (some ⟨wr.heap.size, 0, none⟩) 1 1] (wr.alloc (.cells #[.int .u32 t, .slice A bs.length c] 48)) fun e w' => e = .returned (.tuple #[.int .i64 (m : Int), .int .i64 z]) ∧ Fil w t A bs.length c lm ps' w' := by
  have hlt : ∀ F, NetU F wr (w.heap.size + 1) lm ps → ∀ k, F k → k < wr.heap.size := fun F h => h.lt
  have H0 := H
  have HA := H.alloc (.cells #[.int .u32 t, .slice A bs.length c] 48)
  obtain ⟨F0, hN0, _, hold0, hF0⟩ := H0
  obtain ⟨F, hN, hb, hold, hF⟩ := HA
  have h := put_net (hN0.keep ((show Old wr (wr.alloc (.cells #[.int .u32 t, .slice A bs.length c] 48)) from (Keeps.refl _ _).alloc _).old _)) (c := 1) (ss := [(t, bs)]) (pks_one (heap_alloc_new _ _) hc (hr.keep (hold.old _))) fun k hk => by
    have h1 := hold0.size
    have h2 := hS k
    rw [World.size_alloc]
    rcases hk with rfl | hk
    · exact ⟨by omega, fun h => by have := hlt F0 hN0 _ h; omega⟩
    · have := h2 hk; exact ⟨by omega, fun h => by have := hF0 _ h; omega⟩
  rw [e] at h
  refine h.mono ?_
  rintro e w' ⟨rfl, F', h1, h2, h3⟩
  exact ⟨rfl, Fil.step hb hold hF0 h1 h2 h3⟩
theorem Fil.put2 {w : World} {S : Nat → Prop} {t : Int} {A : Option Addr} {c lm : Nat} {bs : List UInt8} {ps ps' : List Pk} {wr : World} {m : Nat} {z : Int} (H : Fil w t A bs.length c lm ps wr) (hr : Bts S w A bs) (hc : bs.length ≤ c) (hS : ∀ k, S k → k < w.heap.size)
    (e : putS lm ps [(t, bs), (t, bs)] = (m, z, ps')) :
    Calls Try.prog 27 #[.pointer (some ⟨w.heap.size + 1, 0, none⟩), .slice (some ⟨wr.heap.size, 0, none⟩) 2 2] (wr.alloc (.cells #[.int .u32 t, .slice A bs.length c, .int .u32 t, .slice A bs.length c] 48)) fun e w' => e = .returned (.tuple #[.int .i64 (m : Int), .int .i64 z]) ∧ Fil w t A bs.length c lm ps' w' := by
  have hlt : ∀ F, NetU F wr (w.heap.size + 1) lm ps → ∀ k, F k → k < wr.heap.size := fun F h => h.lt
  have H0 := H
  have HA := H.alloc (.cells #[.int .u32 t, .slice A bs.length c, .int .u32 t, .slice A bs.length c] 48)
  obtain ⟨F0, hN0, _, hold0, hF0⟩ := H0
  obtain ⟨F, hN, hb, hold, hF⟩ := HA
  have h := put_net (hN0.keep ((show Old wr (wr.alloc (.cells #[.int .u32 t, .slice A bs.length c, .int .u32 t, .slice A bs.length c] 48)) from (Keeps.refl _ _).alloc _).old _)) (c := 2) (ss := [(t, bs), (t, bs)]) (pks_two (heap_alloc_new _ _) hc (hr.keep (hold.old _))) fun k hk => by
    have h1 := hold0.size
    have h2 := hS k
    rw [World.size_alloc]
    rcases hk with rfl | hk
    · exact ⟨by omega, fun h => by have := hlt F0 hN0 _ h; omega⟩
    · have := h2 hk; exact ⟨by omega, fun h => by have := hF0 _ h; omega⟩
  rw [e] at h
  refine h.mono ?_
  rintro e w' ⟨rfl, F', h1, h2, h3⟩
  exact ⟨rfl, Fil.step hb hold hF0 h1 h2 h3⟩

/-- ahead of a round of the putting -/
def InFil (w : World) (t : Int) (A : Option Addr) (bs : List UInt8) (c lm : Nat) (v : Value) (wr : World) : Prop :=
  ∃ k : Nat, v = .int .i64 k ∧ k ≤ lm ∧ Fil w t A bs.length c lm (List.replicate k (t, bs)) wr

set_option maxRecDepth 10000 in
set_option maxHeartbeats 4000000 in
theorem fills_any (w : World) (S : Nat → Prop) (lim t : Int) (A : Option Addr) (c : Nat) (bs : List UInt8) (hr : Bts S w A bs) (hc : bs.length ≤ c) (hS : ∀ k, S k → k < w.heap.size) :
    Calls Try.prog 15 #[.int .i64 lim, .agg #[.int .u32 t, .slice A bs.length c]] w fun e w' => e = .returned (.bool true) ∧ Old w w' := by
  have hl0 := hr.1
  obtain ⟨W, hW⟩ : ∃ W, W = w.alloc (.cells #[.int .u32 t, .slice A bs.length c] 48) := ⟨_, rfl⟩
  have k0 : Old w W := by rw [hW]; exact (Keeps.refl _ _).alloc _
  have hbx : W.heap[w.heap.size]? = some (.cells #[.int .u32 t, .slice A bs.length c] 48 (0, 0)) := by rw [hW]; exact heap_alloc_new _ _
  have hz0 : W.heap.size = w.heap.size + 1 := by rw [hW]; simp
  have hu := unew_any W lim
  unfold PostUNew at hu
  by_cases hl : 1 ≤ lim ∧ lim ≤ 4096
  · simp only [if_pos hl] at hu
    obtain ⟨lm, rfl⟩ := Int.eq_ofNat_of_zero_le (show 0 ≤ lim by omega)
    obtain ⟨l1, l2⟩ := hl
    go_enter Try.func15, Try.ntmps15
    go_wp2_with fail
    rw [← hW]
    clear hW
    refine hu.mono ?_
    rintro e w1 ⟨k1, rfl, hU⟩
    clear hu
    go_wp2_with fail
    refine (first_any w1).mono ?_
    rintro e w2 ⟨rfl, k2⟩
    have k12 := k1.trans' k2
    have hN : NetU (fun k => k = W.heap.size) w2 W.heap.size lm [] := ⟨_, _, (by simpa using hU.keep (k2.old _)), rfl⟩
    rw [hz0] at hN
    have H2 : Fil w t A bs.length c lm [] w2 := ⟨_, hN, k12.heap hbx trivial, k0.trans' k12, fun j h => by have h' : j = w.heap.size + 1 := h; omega⟩
    have hb2 := k12.heap hbx trivial
    have x1 : w2.cell? ⟨w.heap.size, 1, none⟩ = some (.slice A bs.length c) := cell_of_heap hb2
    have b1 : ((0 : Int) == 0) = true := rfl
    clear hN hU k12 k2 k1 hbx k0
    go_upto_if 44 with fail
    go_cut [5] (fun a wx => ∃ (xs : List UInt8) (A1 : Option Addr) (c1 : Nat), a = .pointer (some ⟨w.heap.size + 1, 0, none⟩) ∧ xs.length ≤ 65535 ∧ xs.length ≤ c1 ∧ Bts S w A1 xs ∧ Fil w t A1 xs.length c1 lm [] wx)
    case first =>
      by_cases hbig : bs.length > 100
      · have i0 : (bs.length : Int) > 100 := by omega
        have i1 : (100 : Nat) ≤ c := by omega
        have i2 : (100 : Int) ≤ (c : Int) := by omega
        have hfz : w2.frozen? ⟨w.heap.size, 1, none⟩ = false := frozen_of_heap hb2
        go_wp2
        go_meet
        obtain ⟨F, hN, hb, hold, hF⟩ := H2
        have K : Keeps (· ≠ w.heap.size) w2 (w2.setCell ⟨w.heap.size, 1, none⟩ (.slice A 100 c)) := (Keeps.refl _ _).setCell (fun _ h => h rfl) _
        have hl100 : (bs.take 100).length = 100 := by simp; omega
        refine ⟨bs.take 100, A, c, rfl, by omega, by omega, ⟨by omega, fun hn => ?_⟩, F, hN.keep (K.mono fun k _ h => by have := hF k h; show k ≠ w.heap.size; omega), ?_, hold.trans K fun j hj _ => by show j ≠ w.heap.size; omega, hF⟩
        · obtain ⟨b, o, e, hs, hcell⟩ := hr.2 (by rintro rfl; simp at hbig)
          exact ⟨b, o, e, hs, fun j hj => by rw [hcell j (by omega), List.getElem_take]⟩
        · rw [hl100]
          exact heap_setCell hb _
      · have i0 : ¬ (bs.length : Int) > 100 := by omega
        go_wp2
        go_meet
        exact ⟨bs, A, c, rfl, by omega, hc, hr, H2⟩
    case rest =>
    clear H2 hr hc hl0 x1 hb2
    obtain ⟨xs, A1, c1, rfl, hx0, hc, hr, H⟩ := hcut
    go_wp2
    go_loopw [7, 8, 9] (fun v _ _ wr => InFil w t A1 xs c1 lm v wr) (fun v _ _ _ => lm - (intOf v).toNat)
    case atStart => exact ⟨0, rfl, by omega, H⟩
    case round =>
      clear H
      obtain ⟨k, rfl, hk, H⟩ := hrel
      by_cases hlt : k < lm
      · have i1 : (k : Int) < (lm : Int) := by omega
        have i3 : IntKind.i64.wrap ((k : Int) + 1) = (k : Int) + 1 := by rw [IntKind.wrap_i64]; omega
        have e1 : putS lm (List.replicate k (t, xs)) [(t, xs)] = (1, 0, List.replicate (k + 1) (t, xs)) := by
          rw [putS_next (r := (0, 0, List.replicate k (t, xs) ++ [(t, xs)])) (by simpa using hlt) hx0 rfl, List.replicate_succ']
        have hp := H.put1 hr hc hS e1
        clear e1
        obtain ⟨_, _, hb, _, _⟩ := H
        have x0 := cell_of_heap (i := 0) hb
        have x1 := cell_of_heap (i := 1) hb
        go_wp2_with fail
        refine hp.mono ?_
        rintro e w3 ⟨rfl, H⟩
        clear hp
        go_wp2
        exact ⟨⟨k + 1, by simp, by omega, H⟩, by simp [intOf]; omega⟩
      · obtain rfl : k = lm := by omega
        clear hlt hk
        have i1 : IntKind.i64.wrap ((k : Int) - 1) = ((k - 1 : Nat) : Int) := by rw [IntKind.wrap_i64]; omega
        have hb0 := H
        obtain ⟨_, _, hb, _, _⟩ := hb0
        have x0 := cell_of_heap (i := 0) hb
        have x1 := cell_of_heap (i := 1) hb
        have hp := H.put2 hr hc hS (putS_full (by simp) hx0)
        have c1' : copyS k ((k - 1 : Nat) : Int) (List.replicate k (t, xs)) = (4, List.replicate k (t, xs)) := fcopyS_full (by simp; omega) (by simp)
        have c2' : copyS k (k : Int) (List.replicate k (t, xs)) = (3, List.replicate k (t, xs)) := fcopyS_no (by simp)
        have c3' : loseS ((k - 1 : Nat) : Int) (List.replicate k (t, xs)) = (0, List.replicate (k - 1) (t, xs)) := by
          rw [floseS_yes (by simp; omega), List.eraseIdx_replicate, if_pos (by omega)]
        have c4' : putS k (List.replicate (k - 1) (t, xs)) [(t, xs), (t, xs)] = (1, 4, List.replicate k (t, xs)) := by
          rw [putS_next (r := (0, 4, List.replicate (k - 1) (t, xs) ++ [(t, xs)])) (by simp; omega) hx0 (putS_full (by simp; omega) hx0), ← List.replicate_succ', show k - 1 + 1 = k by omega]
        have C1 := hid c1'
        have C2 := hid c2'
        have C3 := hid c3'
        have C4 := hid c4'
        clear c1' c2' c3' c4' H hb
        go_wp2_with fail
        refine hp.mono ?_
        rintro e w3 ⟨rfl, H⟩
        clear hp x0 x1
        go_wp2_with fail
        refine (H.copy C1.out).mono ?_
        rintro e w4 ⟨rfl, H⟩
        go_wp2_with fail
        refine (H.copy C2.out).mono ?_
        rintro e w5 ⟨rfl, H⟩
        go_wp2_with fail
        refine (H.lose C3.out).mono ?_
        rintro e w6 ⟨rfl, H⟩
        have hp := H.put2 hr hc hS C4.out
        obtain ⟨_, _, hb, _, _⟩ := H
        have x0 := cell_of_heap (i := 0) hb
        have x1 := cell_of_heap (i := 1) hb
        clear hb
        go_wp2_with fail
        refine hp.mono ?_
        rintro e w7 ⟨rfl, F, hN, _, hold, _⟩
        clear hp x0 x1
        go_wp2_with fail
        refine (list_net hN).mono ?_
        rintro e w8 ⟨A3, c3, rfl, _, _, k8⟩
        rw [List.length_replicate]
        go_wp2
        go_ret
        exact ⟨rfl, hold.trans' k8⟩
  · simp only [if_neg hl] at hu
    have hcase : lim < 1 ∨ 4096 < lim := by omega
    clear hl hbx hz0 hr
    rcases hcase with hl | hl <;> (
      go_enter Try.func15, Try.ntmps15
      go_wp2_with fail
      rw [← hW]
      refine hu.mono ?_
      rintro e w1 ⟨k1, rfl⟩
      clear hu hW
      go_wp2_with fail
      refine (first_any w1).mono ?_
      rintro e w2 ⟨rfl, k2⟩
      have i1 : lim ≥ 1 ∨ lim < 1 := by omega
      go_wp2
      go_ret
      exact ⟨rfl, (k0.trans' k1).trans' k2⟩)
end Go.Proofs.Ytgnndggbjipioaa
