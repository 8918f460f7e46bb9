/- (*under.Net).List: all packets in flight, in their order, in new memory. Condition: the net stands whole at its block. -/
import Derived.Test.YtgnndggbjipioaaAULose
namespace Go.Proofs.Ytgnndggbjipioaa
open Go.RowKit

def PostList (w : World) (ps : List Pk) (e : Ending) (w' : World) : Prop :=
  ∃ v r, e = .returned v ∧ Flight (fun k => w.heap.size ≤ k) w' v r ∧ r.map (·.1) = ps ∧ Old w w'

/-- ahead of round k -/
def InList (w : World) (ps : List Pk) (k : Nat) (v : Value) (wr : World) : Prop :=
  ∃ r, Flight (fun k => w.heap.size ≤ k) wr v r ∧ r.map (·.1) = ps.take k ∧ Old w wr

theorem inlist_step {w w0 w1 w2 : World} {ps : List Pk} {k g : Nat} {L v L2 : Value} {r : List (Pk × Value)} {cs : Array Value} {ty : Nat}
    (hr : Flight (fun k => w.heap.size ≤ k) w1 L r) (hm : r.map (·.1) = ps.take k) (hk : k < ps.length) (h0 : Old w w0) (hr0 : Flight (fun k => w.heap.size ≤ k) w0 L r) (h1 : Old w0 w1)
    (hov : OwnB (fun k => w0.heap.size ≤ k) w1 v ps[k].2) (hg : w1.heap[g]? = some (.cells cs ty (0, 0))) (hty : ty ≠ 5)
    (hown : w2.ownsRow 0 48 2 L2 (r.length + 1) (row2 r ++ [.int .u32 ps[k].1, v])) (K : Keeps (fun k => L.ownBlock ≠ some k) w1 w2)
    (hat : L2.ownBlock = L.ownBlock ∨ ∃ n, L2.ownBlock = some n ∧ w1.heap.size ≤ n) : InList w ps (k + 1) L2 w2 := by
  have hf := flight_push (F := fun k => w.heap.size ≤ k ∧ k < w0.heap.size) (G := fun k => w0.heap.size ≤ k) (p := ps[k]) (cs := cs) (ty := ty) (g := g) (w1 := w1) (w3 := w2) (L := L) (L2 := L2) (q := r) (v := v)
    ⟨hr.row, fun x hx => ⟨(hr.own x hx).row, fun b hb => ⟨(hr.own x hx).foot b hb, own_lt (hr0.own x hx).row hb⟩, (hr.own x hx).len⟩, hr.apart, fun b hb => ⟨hr.foot b hb, own_lt hr0.row hb⟩⟩
    hov (fun b h h' => by omega) hg hty (K.mono fun _ _ h => h.2) hown
  have hw01 := h0.size
  have hw1 := h1.size
  refine ⟨_, hf.mono ?_, by rw [List.map_append, hm, List.take_succ_eq_append_getElem hk]; rfl, (h0.trans' h1).trans K fun b hb _ e => ?_⟩
  · rintro b _ (h | h | h)
    · exact h.1
    · exact Nat.le_trans hw01 h.1
    · rcases hat with e | ⟨n, e, hn⟩
      · exact hr.foot b (e ▸ h)
      · rw [e] at h; injection h with h; omega
  · have := hr.foot b e; omega

set_option maxHeartbeats 1000000 in
theorem ulist_any (w : World) (F : Nat → Prop) (g lim : Nat) (L : Value) (q : List (Pk × Value)) (hN : UNet F w g lim L q) :
    Calls Try.prog 32 #[.pointer (some ⟨g, 0, none⟩)] w (PostList w (q.map (·.1))) := by
  obtain ⟨LA, lc, hLs, hlc, hlm⟩ := own_slice hN.flight.row
  subst hLs
  have n1 := hN.cell1
  have hroom := hN.room
  have hmost := hN.most
  have hq : q.length ≤ 4096 := by omega
  obtain ⟨i48, hi, hz0, hz1, hz2⟩ := info_parts info48
  have hmk := fun w => run_make (P := Try.prog) w 34 48 i48 _ Try.underlying34 hi hz0 .i64 .i64 0 q.length (by omega) (by omega) (by rw [hz2]; omega) (by omega)
  simp only [hz1, Int.toNat_natCast, Int.toNat_zero] at hmk
  have n1' : ∀ o, (w.alloc o).cell? ⟨g, 1, none⟩ = some (.slice LA q.length lc) := fun o => by
    rw [World.cell?_alloc_lt _ _ _ (lt_of_cell n1)]; exact n1
  go_enter Try.func32, Try.ntmps32
  go_wp2
  go_loopw [3, 17] (fun v i wr => ∃ k : Nat, i = .int .i64 k ∧ k ≤ q.length ∧ InList w (q.map (·.1)) k v wr) (fun _ i _ => q.length - (intOf i).toNat)
  case atStart =>
    refine ⟨0, rfl, Nat.zero_le _, [], ⟨World.ownsRow_made w _ _ (Nat.zero_le _) (by unfold maxLen; omega) (size_madeCells _ _), by simp, by simp, by simp [Value.ownBlock]⟩, rfl, (Keeps.refl _ _).alloc _⟩
  case round =>
    obtain ⟨k, rfl, hk, r, hr, hm, hold⟩ := hrel
    obtain ⟨RA, rc, rfl, hrc, hrm⟩ := own_slice hr.row
    by_cases hlt : k < q.length
    · have hNr := hN.keep (hold.old F)
      obtain ⟨b, c, A', c', hLe, _, _, hFb, hv, h0, h1, hc', hb⟩ := hNr.flight.at_ hlt
      injection hLe with hLA _ hcc
      subst hLA
      have hps : (q.map (·.1))[k]'(by simpa using hlt) = q[k].1 := by simp
      generalize hs : q[k] = x at *
      obtain ⟨⟨t, bs⟩, v⟩ := x
      simp only at hv h0 h1 hc' hb hps
      have hrl : r.length = k := by have := congrArg List.length hm; simp at this; omega
      have hrl' : r.length ≤ 4096 := by omega
      have HS := hid hs; clear hs hcc
      have HM := hid hm; clear hm
      have HRL := hid hrl; clear hrl
      have HPS := hid hps; clear hps
      go_wp2_with fail
      refine (clone_any _ F t A' c' bs (hb.keep ((Keeps.refl _ _).alloc _))).mono ?_
      rintro e w1 ⟨v1, rfl, hov, hold1⟩
      have hr0 : Flight (fun k => w.heap.size ≤ k) (wr.alloc (.cells #[.int .u32 t, .slice A' bs.length c'] 48)) _ r := hr.keep ((Keeps.refl _ _).alloc _)
      have hr1 := hr0.keep (hold1.old _)
      have hap := hr1.row.alloc (.cells #[.int .u32 t, v1] 48)
      have hv1 := hov.one
      go_wp2_with (at_builtin; refine wpList_append_ex _ (by rfl) _ _ 34 48 (by rfl) Try.underlying34 info48 (by rfl) (by omega) (by rfl) hap (some ⟨w1.heap.size, 0, none⟩) 1 1 [.int .u32 t, v1] (by rfl) (by rfl) (fun _ => ⟨_, rfl, World.news_of_block (heap_alloc_new _ _)⟩) (two_one hv1) (by omega) (by unfold maxLen; omega) ?_; intro v2 w2 hown2 hgrow2 hat2)
      refine ⟨⟨k + 1, by go_num, by omega, ?_⟩, by simp [intOf]; omega⟩
      have K2 : Keeps (fun k => Value.ownBlock (.slice RA r.length rc) ≠ some k) w1 w2 := ((Keeps.refl _ w1).alloc _).grown hgrow2 (fun k _ h hn => hn h)
      have hg1 := (hNr.keep (((Keeps.refl F wr).alloc (.cells #[.int .u32 t, .slice A' bs.length c'] 48)).trans' (hold1.old F))).head
      have hkl : k < (q.map (·.1)).length := by simpa using hlt
      refine inlist_step (g := g) (v := v1) hr1 HM.out hkl (hold.alloc _) hr0 hold1 ?_ hg1 (by decide) ?_ K2 ?_
      · rw [HPS.out]; exact hov
      · rw [HPS.out]; exact hown2
      · exact hat2.imp id fun h => ⟨_, h, by simp⟩
    · go_wp2
      go_ret
      have : k = q.length := by omega
      subst this
      exact ⟨_, r, rfl, hr, by rw [hm]; exact List.take_of_length_le (by simp), hold⟩
end Go.Proofs.Ytgnndggbjipioaa
