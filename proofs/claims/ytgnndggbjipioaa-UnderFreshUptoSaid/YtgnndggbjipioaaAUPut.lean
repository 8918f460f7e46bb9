/- (*under.Net).Put: the packets join up to the first that is refused; the answer is how many, and its error. Conditions: the net stands whole at its block, the packets handed in can be read and lie in other blocks than the net's head and list. -/
import Derived.Test.YtgnndggbjipioaaAClone
import Derived.Test.YtgnndggbjipioaaAPlan
namespace Go.Proofs.Ytgnndggbjipioaa
open Go.RowKit

def PostUPut (F : Nat → Prop) (w : World) (g lim : Nat) (L : Value) (q : List (Pk × Value)) (ss : List Pk) (e : Ending) (w' : World) : Prop :=
  ∃ F' L' q', e = .returned (.tuple #[.int .i64 ((putS lim (q.map (·.1)) ss).1 : Int), .int .i64 (putS lim (q.map (·.1)) ss).2.1]) ∧ UNet F' w' g lim L' q' ∧
    q'.map (·.1) = (putS lim (q.map (·.1)) ss).2.2 ∧ (∀ k, F' k → F k ∨ w.heap.size ≤ k) ∧ Keeps (fun k => k ≠ g ∧ L.ownBlock ≠ some k) w w'

/-- the state ahead of round k -/
def InUPut (F S : Nat → Prop) (w : World) (g lim : Nat) (L : Value) (q : List (Pk × Value)) (A : Option Addr) (ss : List Pk) (k : Nat) (wr : World) : Prop :=
  ∃ F' L' q', UNet F' wr g lim L' q' ∧ Pks S wr A ss ∧ (∀ k, k < w.heap.size → S k → k ≠ g ∧ L.ownBlock ≠ some k) ∧
    (∀ k, F' k → F k ∨ w.heap.size ≤ k) ∧ Keeps (fun k => k ≠ g ∧ L.ownBlock ≠ some k) w wr ∧ (∀ k, k < w.heap.size → L'.ownBlock = some k → L.ownBlock = some k) ∧
    putS lim (q.map (·.1)) ss = ((putS lim (q'.map (·.1)) (ss.drop k)).1 + k, (putS lim (q'.map (·.1)) (ss.drop k)).2.1, (putS lim (q'.map (·.1)) (ss.drop k)).2.2)

theorem putS_drop {lim : Nat} {ps ss : List Pk} {k : Nat} {s : Pk} (hk : k < ss.length) (hs : ss[k] = s) : putS lim ps (ss.drop k) =
    if 65535 < s.2.length then (0, 2, ps) else if lim ≤ ps.length then (0, 4, ps) else ((putS lim (ps ++ [s]) (ss.drop (k + 1))).1 + 1, (putS lim (ps ++ [s]) (ss.drop (k + 1))).2.1, (putS lim (ps ++ [s]) (ss.drop (k + 1))).2.2) := by
  rw [List.drop_eq_getElem_cons hk, hs]; rfl

theorem uput_stop {F : Nat → Prop} {w wr w' : World} {g lim : Nat} {L : Value} {q : List (Pk × Value)} {ss : List Pk} {k : Nat} {er : Int} {F' : Nat → Prop} {L' : Value} {q' : List (Pk × Value)}
    (hN : UNet F' wr g lim L' q') (hF : ∀ k, F' k → F k ∨ w.heap.size ≤ k) (hK : Keeps (fun k => k ≠ g ∧ L.ownBlock ≠ some k) w wr)
    (hp : putS lim (q.map (·.1)) ss = ((putS lim (q'.map (·.1)) (ss.drop k)).1 + k, (putS lim (q'.map (·.1)) (ss.drop k)).2.1, (putS lim (q'.map (·.1)) (ss.drop k)).2.2))
    (he : putS lim (q'.map (·.1)) (ss.drop k) = (0, er, q'.map (·.1))) (hw : Old wr w') : PostUPut F w g lim L q ss (.returned (.tuple #[.int .i64 k, .int .i64 er])) w' := by
  rw [he] at hp
  refine ⟨F', L', q', ?_, hN.keep (hw.old _), by rw [hp], hF, hK.trans' (hw.old _)⟩
  rw [hp]
  simp

theorem uput_step {F S : Nat → Prop} {w wr w0 w1 w2 : World} {g lim : Nat} {L : Value} {q : List (Pk × Value)} {A : Option Addr} {ss : List Pk} {k : Nat} {F' : Nat → Prop} {L' L2 v : Value} {q' : List (Pk × Value)} {t : Int} {bs : List UInt8} {o : Obj}
    (hN1 : UNet F' w1 g lim L' q') (hF : ∀ k, F' k → F k ∨ w.heap.size ≤ k) (hK : Keeps (fun k => k ≠ g ∧ L.ownBlock ≠ some k) w wr) (hr : Pks S wr A ss)
    (hS : ∀ k, k < w.heap.size → S k → k ≠ g ∧ L.ownBlock ≠ some k) (hL : ∀ k, k < w.heap.size → L'.ownBlock = some k → L.ownBlock = some k)
    (hp : putS lim (q.map (·.1)) ss = ((putS lim (q'.map (·.1)) (ss.drop k)).1 + k, (putS lim (q'.map (·.1)) (ss.drop k)).2.1, (putS lim (q'.map (·.1)) (ss.drop k)).2.2))
    (hk : k < ss.length) (hs : ss[k] = (t, bs)) (hlong : ¬ 65535 < bs.length) (hfull : ¬ lim ≤ q'.length)
    (k0 : Old wr w0) (hw0 : ∀ k, F' k → k < w0.heap.size) (k1 : Old w0 w1) (hov : OwnB (fun k => w0.heap.size ≤ k) w1 v bs) (hrS : ∀ k, S k → k < w.heap.size)
    (hown2 : w2.ownsRow 0 48 2 L2 (q'.length + 1) (row2 q' ++ [.int .u32 t, v])) (K2 : Keeps (fun k => L'.ownBlock ≠ some k) w1 w2)
    (hat2 : L2.ownBlock = L'.ownBlock ∨ L2.ownBlock = some (w1.alloc o).heap.size) :
    InUPut F S w g lim L q A ss (k + 1) (w2.setCell ⟨g, 1, none⟩ L2) := by
  have kw : Keeps (fun k => k ≠ g ∧ L.ownBlock ≠ some k) w w1 := (hK.trans' (k0.old _)).trans' (k1.old _)
  have hN2 := unet_push (p := (t, bs)) hN1 hov (fun k h1 h2 => by have := hw0 k h1; omega) (by simp; omega) (by omega) K2 hown2
  have k2 : Keeps (fun k => k ≠ g ∧ L.ownBlock ≠ some k) w (w2.setCell ⟨g, 1, none⟩ L2) :=
    (kw.trans K2 (fun k hk hs h => hs.2 (hL k hk h))).setCell (fun _ h => h.1 rfl) _
  refine ⟨_, L2, _, hN2, ?_, hS, ?_, k2, ?_, ?_⟩
  · refine hr.keep' (T := fun k => k ≠ g ∧ L'.ownBlock ≠ some k) ?_ (fun k _ h => ⟨(hS k (hrS k h) h).1, fun e => (hS k (hrS k h) h).2 (hL k (hrS k h) e)⟩)
    exact (((k0.old _).trans' (k1.old _)).trans K2 (fun k _ h => h.2)).setCell (fun _ h => h.1 rfl) _
  · rintro k (h | h | h)
    · exact hF k h
    · exact .inr (by have := h.1; have := kw.size; have := k1.size; have := k0.size; have := hK.size; omega)
    · rcases hat2 with e | e
      · exact hF k (hN1.flight.foot k (e ▸ h))
      · rw [e] at h; injection h with h; simp at h; have := kw.size; omega
  · intro k hk h
    rcases hat2 with e | e
    · exact hL k hk (e ▸ h)
    · rw [e] at h; injection h with h; simp at h; have := kw.size; omega
  · rw [hp, putS_drop hk hs, if_neg (by simpa using hlong), if_neg (by simpa using hfull)]
    simp [List.map_append]
    omega

set_option maxHeartbeats 1000000 in
theorem uput_any (w : World) (F S : Nat → Prop) (g lim : Nat) (L : Value) (q : List (Pk × Value)) (A : Option Addr) (c : Nat) (ss : List Pk)
    (hN : UNet F w g lim L q) (hr : Pks S w A ss) (hS : ∀ k, k < w.heap.size → S k → k ≠ g ∧ L.ownBlock ≠ some k) (hrS : ∀ k, S k → k < w.heap.size) :
    Calls Try.prog 27 #[.pointer (some ⟨g, 0, none⟩), .slice A ss.length c] w (PostUPut F w g lim L q ss) := by
  have hn := hr.1
  have H0 : InUPut F S w g lim L q A ss 0 w := ⟨F, L, q, hN, hr, hS, fun k h => .inl h, Keeps.refl _ _, fun _ _ h => h, by simp⟩
  clear hN hr hS
  go_enter Try.func27, Try.ntmps27
  go_wp2
  go_loopw [10] (fun i wr => ∃ k : Nat, i = .int .i64 k ∧ k ≤ ss.length ∧ InUPut F S w g lim L q A ss k wr) (fun i _ => ss.length - (intOf i).toNat)
  case atStart => exact ⟨0, rfl, Nat.zero_le _, H0⟩
  case round =>
    clear H0
    obtain ⟨k, rfl, hk, F', L', q', hN, hr, hS, hF, hK, hL, hp⟩ := hrel
    by_cases hlt : k < ss.length
    · obtain ⟨b, o, A', c', rfl, hsb, h0, h1, h2, hb⟩ := hr.at_ hlt
      generalize hs : ss[k] = s at *
      obtain ⟨t, bs⟩ := s
      have HS := hid hs; clear hs
      have HP := hid hp; clear hp
      have n0 := hN.cell0
      have n1 := hN.cell1
      obtain ⟨LA, lc, hLs, hlc, hlm⟩ := own_slice hN.flight.row
      subst hLs
      have hroom := hN.room
      have hmost := hN.most
      have hq : q'.length ≤ 4096 := by omega
      by_cases hlong : 65535 < bs.length
      · go_wp2
        go_ret2
        exact uput_stop hN hF hK HP.out (by rw [putS_drop hlt HS.out, if_pos (by simpa using hlong)]) ((Keeps.refl _ _).alloc _)
      · have hgw : g < wr.heap.size := lt_of_heap hN.head
        by_cases hfull : lim ≤ q'.length
        · go_wp2
          go_quiet (fail)
          go_wp2
          go_ret2
          exact uput_stop hN hF hK HP.out (by rw [putS_drop hlt HS.out, if_neg (by simpa using hlong), if_pos (by simpa using hfull)]) (((Keeps.refl _ _).alloc _).drewN _)
        · go_wp2
          go_quiet (fail)
          go_wp2
          obtain ⟨W0, hW0⟩ : ∃ W0, W0 = (wr.alloc (Obj.cells #[Value.int IntKind.u32 t, Value.slice A' bs.length c'] 48)).drewN nq := ⟨_, rfl⟩
          rw [← hW0]
          have k0 : Old wr W0 := by subst hW0; exact ((Keeps.refl _ _).alloc _).drewN _
          have z0 : W0.heap.size = wr.heap.size + 1 := by subst hW0; simp
          have b0 : W0.heap[wr.heap.size]? = some (.cells #[.int .u32 t, .slice A' bs.length c'] 48 (0, 0)) := by subst hW0; exact heap_alloc_new _ _
          have e0 : W0.cell? ⟨wr.heap.size, 0, none⟩ = some (.int .u32 t) := cell_of_heap b0
          have e1 : W0.cell? ⟨wr.heap.size, 1, none⟩ = some (.slice A' bs.length c') := cell_of_heap b0
          have hN0 := hN.keep (k0.old F')
          have n10 := hN0.cell1
          clear hW0 n0 n1 h0 h1
          have Z0 := hid z0; clear z0
          refine wp_region_plan (fun w' => w'.cell? ⟨g, 1, none⟩ = some (.slice LA q'.length lc) ∧ w'.cell? ⟨wr.heap.size, 0, none⟩ = some (.int .u32 t) ∧ w'.cell? ⟨wr.heap.size, 1, none⟩ = some (.slice A' bs.length c')) [true, true, true, true, true, true, false, false, false] (by kernel_rfl) (by kernel_rfl) ⟨n10, e0, e1⟩ ?_
          iterate 6 (refine plan_take (v := ?_) (by rfl) (fun w' hS => ?_) ?_; rotate_left 1; (obtain ⟨s0, s1, s2⟩ := hS; go_simp; try with_reducible rfl); (simp only [Act.put, List.setIfInBounds_toArray, List.set_cons_zero, List.set_cons_succ]))
          refine plan_loud (by rfl) (fun K hK => ?_)
          go_wp2_with (go_at_call 52; refine (clone_any _ S t A' c' bs ?_).mono ?_)
          · exact hb.keep (((k0.old S).drew))
          rintro e w1 ⟨v, rfl, hov, hold⟩
          have hN1 := hN0.keep (hold.ofDrew.old F')
          have z1 : wr.heap.size + 1 ≤ w1.heap.size := by have := hold.size; have := Z0.out; simp at *; omega
          have m0 := hN1.cell1
          have m1 := (hold.cell (p := ⟨wr.heap.size, 0, none⟩) (by have := Z0.out; simp; omega) trivial).trans e0
          have m2 := (hold.cell (p := ⟨wr.heap.size, 1, none⟩) (by have := Z0.out; simp; omega) trivial).trans e1
          have hap := hN1.flight.row.alloc (.cells #[.int .u32 t, v] 48)
          have hv1 := hov.one
          refine hK _ _ ⟨m0, m1, m2⟩ ?_
          clear hK K
          refine plan_loud (by rfl) (fun K hK => ?_)
          go_wp2_with fail
          refine hK _ _ ⟨?_, ?_, ?_⟩ ?_
          · rw [World.cell?_alloc_lt _ _ _ (lt_of_cell m0)]; exact m0
          · rw [World.cell?_alloc_lt _ _ _ (lt_of_cell m1)]; exact m1
          · rw [World.cell?_alloc_lt _ _ _ (lt_of_cell m2)]; exact m2
          clear hK K
          refine plan_loud (by rfl) (fun K hK => ?_)
          refine wp_append_ex _ _ _ 34 48 (by rfl) Try.underlying34 info48 (by rfl) (by omega) (by rfl) hap (some ⟨w1.heap.size, 0, none⟩) 1 1 [.int .u32 t, v] (by rfl) (by rfl) (fun _ => ⟨_, rfl, World.news_of_block (heap_alloc_new _ _)⟩) (two_one hv1) (by omega) (by unfold maxLen; omega) ?_
          intro v2 w2 hown2 hgrow2 hat2
          have K2 : Keeps (fun k => Value.ownBlock (.slice LA q'.length lc) ≠ some k) w1 w2 := ((Keeps.refl _ w1).alloc _).grown hgrow2 (fun k _ h hn => hn h)
          have p0 := (K2.cell (p := ⟨g, 1, none⟩) (lt_of_cell m0) (own_ne_heap hN1.flight.row hN1.head (by decide))).trans m0
          have p1 := (K2.cell (p := ⟨wr.heap.size, 0, none⟩) (lt_of_cell m1) (fun h => Nat.lt_irrefl _ (own_lt hN.flight.row h))).trans m1
          have p2 := (K2.cell (p := ⟨wr.heap.size, 1, none⟩) (lt_of_cell m2) (fun h => Nat.lt_irrefl _ (own_lt hN.flight.row h))).trans m2
          have h2 := K2.heap hN1.head (own_ne_heap hN1.flight.row hN1.head (by decide))
          have f3 := frozen_of_heap (i := 1) h2
          obtain ⟨A2, c2, rfl, hc2a, hc2b⟩ := own_slice hown2
          refine hK _ _ ⟨p0, p1, p2⟩ ?_
          clear hK K
          refine plan_tail ?_
          go_wp2
          refine NoPanic.normal ?_
          go_wp2
          refine ⟨⟨k + 1, by go_num, by omega, ?_⟩, by simp [intOf]; omega⟩
          exact uput_step hN1 hF hK hr hS hL HP.out hlt HS.out hlong hfull k0 (fun k hk => hN0.lt k hk) hold.ofDrew hov hrS hown2 K2 hat2
    · go_wp2
      go_ret2
      have hkk : k = ss.length := by omega
      subst hkk
      exact uput_stop hN hF hK hp (by simp [putS]) (Keeps.refl _ _)
end Go.Proofs.Ytgnndggbjipioaa
