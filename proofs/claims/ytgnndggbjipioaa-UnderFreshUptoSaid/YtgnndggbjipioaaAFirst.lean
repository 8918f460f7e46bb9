/- weftlaw18.both, first: a net of each kind made alike, or both refused; the document's example holds. No conditions. -/
import Derived.Test.YtgnndggbjipioaaAPlays
namespace Go.Proofs.Ytgnndggbjipioaa
open Go.RowKit

/-- A step of a script. -/
structure OpD where
  kind : Int
  sents : List Pk
  i : Int
  at_ : Int
  mask : UInt8

/-- The slice at A reads as a script, in blocks that S lets. -/
def Ops (S : Nat → Prop) (w : World) (A : Option Addr) (l : List OpD) : Prop :=
  l.length ≤ 281474976710656 ∧ (l ≠ [] → ∃ b o, A = some ⟨b, o, none⟩ ∧ S b ∧ ∀ j (h : j < l.length), ∃ A' c', w.cell? ⟨b, o + j * 5, none⟩ = some (.int .i64 l[j].kind) ∧
    w.cell? ⟨b, o + j * 5 + 1, none⟩ = some (.slice A' l[j].sents.length c') ∧ w.cell? ⟨b, o + j * 5 + 2, none⟩ = some (.int .i64 l[j].i) ∧
    w.cell? ⟨b, o + j * 5 + 3, none⟩ = some (.int .i64 l[j].at_) ∧ w.cell? ⟨b, o + j * 5 + 4, none⟩ = some (.int .u8 l[j].mask.toNat) ∧ l[j].sents.length ≤ c' ∧ Pks S w A' l[j].sents)

section
variable {S T : Nat → Prop} {w w' : World} {A : Option Addr} {l : List OpD}
theorem Ops.keep (h : Ops S w A l) (hk : Keeps S w w') : Ops S w' A l :=
  ⟨h.1, fun hn => by
    obtain ⟨b, o, e, hs, hc⟩ := h.2 hn
    refine ⟨b, o, e, hs, fun i hi => ?_⟩
    obtain ⟨A', c', h0, h1, h2, h3, h4, h5, h6⟩ := hc i hi
    exact ⟨A', c', (hk.cell (lt_of_cell h0) hs).trans h0, (hk.cell (lt_of_cell h1) hs).trans h1, (hk.cell (lt_of_cell h2) hs).trans h2, (hk.cell (lt_of_cell h3) hs).trans h3, (hk.cell (lt_of_cell h4) hs).trans h4, h5, h6.keep hk⟩⟩
theorem Ops.keep' (h : Ops S w A l) (hk : Keeps T w w') (hT : ∀ k, k < w.heap.size → S k → T k) : Ops S w' A l := h.keep (hk.mono hT)
theorem Ops.at_ (h : Ops S w A l) {j : Nat} (hj : j < l.length) : ∃ b o A' c', A = some ⟨b, o, none⟩ ∧ S b ∧ w.cell? ⟨b, o + j * 5, none⟩ = some (.int .i64 l[j].kind) ∧
    w.cell? ⟨b, o + j * 5 + 1, none⟩ = some (.slice A' l[j].sents.length c') ∧ w.cell? ⟨b, o + j * 5 + 2, none⟩ = some (.int .i64 l[j].i) ∧
    w.cell? ⟨b, o + j * 5 + 3, none⟩ = some (.int .i64 l[j].at_) ∧ w.cell? ⟨b, o + j * 5 + 4, none⟩ = some (.int .u8 l[j].mask.toNat) ∧ l[j].sents.length ≤ c' ∧ Pks S w A' l[j].sents := by
  obtain ⟨b, o, e, hs, hc⟩ := h.2 (by rintro rfl; simp at hj)
  obtain ⟨A', c', h0, h1, h2, h3, h4, h5, h6⟩ := hc j hj
  exact ⟨b, o, A', c', e, hs, h0, h1, h2, h3, h4, h5, h6⟩
end

def PostBoth (lim : Int) (w : World) (e : Ending) (w' : World) : Prop :=
  Old w w' ∧ if 1 ≤ lim ∧ lim ≤ 4096 then ∃ gn gm H, e = .returned (.tuple #[.pointer (some ⟨gn, 0, none⟩), .pointer (some ⟨gm, 0, none⟩), .bool true]) ∧ Twin H w' gn gm lim.toNat ∧ ∀ k, H k → w.heap.size ≤ k
    else e = .returned (.tuple #[.pointer none, .pointer none, .bool true])

set_option maxHeartbeats 1000000 in
theorem both_any (w : World) (lim : Int) : Calls Try.prog 20 #[.int .i64 lim] w (PostBoth lim w) := by
  by_cases hl : 1 ≤ lim ∧ lim ≤ 4096
  · have hu := unew_any w lim
    unfold PostUNew at hu
    simp only [if_pos hl] at hu
    go_enter Try.func20, Try.ntmps20
    go_wp2_with fail
    refine hu.mono ?_
    rintro e w1 ⟨k1, rfl, hU⟩
    have hr := rnew_any w1 lim
    unfold PostRNew at hr
    simp only [if_pos hl] at hr
    go_wp2_with fail
    refine hr.mono ?_
    rintro e w2 ⟨k2, rfl, hR⟩
    clear hr hu
    have hz := k1.size
    have hz1 := lt_of_heap hU.head
    go_wp2
    go_ret3
    refine ⟨k1.trans' k2, ?_⟩
    rw [if_pos hl]
    refine ⟨_, _, fun k => k = w.heap.size ∨ k = w1.heap.size, rfl, ⟨_, _, _, _, _, _, hU.keep (k2.old _), hR, rfl, fun k h h' => by omega, fun k h => .inl h, fun k h => .inr h, ?_⟩, by omega⟩
    rintro k (rfl | rfl)
    · have := k2.size; omega
    · exact lt_of_heap hR.head
  · have hu := unew_any w lim
    unfold PostUNew at hu
    simp only [if_neg hl] at hu
    go_enter Try.func20, Try.ntmps20
    go_wp2_with fail
    refine hu.mono ?_
    rintro e w1 ⟨k1, rfl⟩
    have hr := rnew_any w1 lim
    unfold PostRNew at hr
    simp only [if_neg hl] at hr
    go_wp2_with fail
    refine hr.mono ?_
    rintro e w2 ⟨k2, rfl⟩
    clear hr hu
    go_wp2
    go_ret3
    refine ⟨k1.trans' k2, ?_⟩
    rw [if_neg hl]
    rfl

theorem alloc_at {w : World} {o : Obj} {k : Nat} (h : k = w.heap.size) : (w.alloc o).heap[k]? = some o := by subst h; exact heap_alloc_new _ _
theorem alloc_lt {w : World} {o : Obj} {k : Nat} {v : Option Obj} (h : k < w.heap.size) (h' : w.heap[k]? = v) : (w.alloc o).heap[k]? = v := (Below.heap_alloc _ _ _ h).trans h'

def firstL : List OpD :=
  [⟨1, [(3221225985, [1]), (3221225986, [2, 3])], 0, 0, 0⟩, ⟨3, [], 0, 0, 0⟩, ⟨3, [], 1, 0, 0⟩, ⟨5, [], 2, 0, 255⟩, ⟨6, [], 0, 0, 0⟩, ⟨2, [], 0, 0, 0⟩, ⟨6, [], 0, 0, 0⟩]

def firstW (w1 : World) : World := (((((w1.alloc (.cells #[.int .u8 1] 5)).alloc (.cells #[.int .u32 3221225985, .slice (some ⟨w1.heap.size, 0, none⟩) 1 1] 48)).alloc (.cells #[.int .u8 2, .int .u8 3] 5)).alloc
  (.cells #[.int .u32 3221225986, .slice (some ⟨w1.heap.size + 1 + 1, 0, none⟩) 2 2] 48)).alloc (.cells #[.int .u32 3221225985, .slice (some ⟨w1.heap.size, 0, none⟩) 1 1, .int .u32 3221225986, .slice (some ⟨w1.heap.size + 1 + 1, 0, none⟩) 2 2] 48)).alloc
  (.cells #[.int .i64 1, .slice (some ⟨w1.heap.size + 1 + 1 + 1 + 1, 0, none⟩) 2 2, .int .i64 0, .int .i64 0, .int .u8 0, .int .i64 3, .slice none 0 0, .int .i64 0, .int .i64 0, .int .u8 0, .int .i64 3, .slice none 0 0, .int .i64 1, .int .i64 0, .int .u8 0,
    .int .i64 5, .slice none 0 0, .int .i64 2, .int .i64 0, .int .u8 255, .int .i64 6, .slice none 0 0, .int .i64 0, .int .i64 0, .int .u8 0, .int .i64 2, .slice none 0 0, .int .i64 0, .int .i64 0, .int .u8 0, .int .i64 6, .slice none 0 0, .int .i64 0, .int .i64 0, .int .u8 0] 36)

theorem first_old (w : World) : Old w (firstW w) := ((((((Keeps.refl _ _).alloc _).alloc _).alloc _).alloc _).alloc _).alloc _
theorem first_size (w : World) : (firstW w).heap.size = w.heap.size + 6 := by simp [firstW]
theorem first_ops (w : World) : Ops (fun k => w.heap.size ≤ k ∧ k < w.heap.size + 6) (firstW w) (some ⟨w.heap.size + 1 + 1 + 1 + 1 + 1, 0, none⟩) firstL := by
  have a0 : (firstW w).heap[w.heap.size]? = some (.cells #[.int .u8 1] 5 (0, 0)) := by
    unfold firstW
    repeat' first | exact alloc_at (by first | (simp; done) | (simp; omega)) | refine alloc_lt (by first | (simp; done) | (simp; omega)) ?_
  have a2 : (firstW w).heap[w.heap.size + 1 + 1]? = some (.cells #[.int .u8 2, .int .u8 3] 5 (0, 0)) := by
    unfold firstW
    repeat' first | exact alloc_at (by first | (simp; done) | (simp; omega)) | refine alloc_lt (by first | (simp; done) | (simp; omega)) ?_
  have a4 : (firstW w).heap[w.heap.size + 1 + 1 + 1 + 1]? = some (.cells #[.int .u32 3221225985, .slice (some ⟨w.heap.size, 0, none⟩) 1 1, .int .u32 3221225986, .slice (some ⟨w.heap.size + 1 + 1, 0, none⟩) 2 2] 48 (0, 0)) := by
    unfold firstW
    repeat' first | exact alloc_at (by first | (simp; done) | (simp; omega)) | refine alloc_lt (by first | (simp; done) | (simp; omega)) ?_
  have a5 : (firstW w).heap[w.heap.size + 1 + 1 + 1 + 1 + 1]? = some (.cells #[.int .i64 1, .slice (some ⟨w.heap.size + 1 + 1 + 1 + 1, 0, none⟩) 2 2, .int .i64 0, .int .i64 0, .int .u8 0, .int .i64 3, .slice none 0 0, .int .i64 0, .int .i64 0, .int .u8 0, .int .i64 3, .slice none 0 0, .int .i64 1, .int .i64 0, .int .u8 0,
    .int .i64 5, .slice none 0 0, .int .i64 2, .int .i64 0, .int .u8 255, .int .i64 6, .slice none 0 0, .int .i64 0, .int .i64 0, .int .u8 0, .int .i64 2, .slice none 0 0, .int .i64 0, .int .i64 0, .int .u8 0, .int .i64 6, .slice none 0 0, .int .i64 0, .int .i64 0, .int .u8 0] 36 (0, 0)) := by
    unfold firstW
    repeat' first | exact alloc_at (by first | (simp; done) | (simp; omega)) | refine alloc_lt (by first | (simp; done) | (simp; omega)) ?_
  generalize firstW w = w2 at *
  have hnil : Pks (fun k => w.heap.size ≤ k ∧ k < w.heap.size + 6) w2 none [] := ⟨by simp, fun h => absurd rfl h⟩
  refine ⟨by decide, fun _ => ⟨_, _, rfl, by omega, fun j hj => ?_⟩⟩
  rcases j with _ | _ | _ | _ | _ | _ | _ | j
  · refine ⟨_, _, cell_of_heap a5, cell_of_heap a5, cell_of_heap a5, cell_of_heap a5, cell_of_heap a5, Nat.le_refl 2, by simp [firstL], fun _ => ⟨_, _, rfl, by omega, fun j hj => ?_⟩⟩
    rcases j with _ | _ | j
    · exact ⟨_, _, cell_of_heap a4, cell_of_heap a4, Nat.le_refl 1, by simp [firstL], fun _ => ⟨_, _, rfl, by omega, fun j hj => by
        rcases j with _ | j
        · exact cell_of_heap a0
        · simp [firstL] at hj⟩⟩
    · exact ⟨_, _, cell_of_heap a4, cell_of_heap a4, Nat.le_refl 2, by simp [firstL], fun _ => ⟨_, _, rfl, by omega, fun j hj => by
        rcases j with _ | _ | j
        · exact cell_of_heap a2
        · exact cell_of_heap a2
        · simp [firstL] at hj; omega⟩⟩
    · simp [firstL] at hj; omega
  iterate 6 exact ⟨_, _, cell_of_heap a5, cell_of_heap a5, cell_of_heap a5, cell_of_heap a5, cell_of_heap a5, Nat.le_refl 0, hnil⟩
  simp [firstL] at hj; omega

set_option maxHeartbeats 1000000 in
theorem first_any (w : World) : Calls Try.prog 21 #[] w fun e w' => e = .returned (.bool true) ∧ Old w w' := by
  have hb := both_any w 3
  unfold PostBoth at hb
  simp only [if_pos (show (1:Int) ≤ 3 ∧ (3:Int) ≤ 4096 by omega)] at hb
  go_enter Try.func21, Try.ntmps21
  go_wp2_with fail
  refine hb.mono ?_
  rintro e w1 ⟨k1, gn, gm, H, rfl, hT, hH⟩
  clear hb
  have hO := first_ops w1
  have hHl := hT.lt
  have hT1 := hT.keep (first_old w1 |>.old _)
  have k2 := k1.trans' (first_old w1)
  have hz := first_size w1
  unfold firstW at hO hT1 k2 hz
  go_wp2
  generalize ((((((w1.alloc _).alloc _).alloc _).alloc _).alloc _).alloc _) = w2 at *
  go_loopw [7] (fun v wr => ∃ (k : Nat) (H' : Nat → Prop), v = .int .i64 k ∧ k ≤ 7 ∧ Twin H' wr gn gm 3 ∧ Ops (fun k => w1.heap.size ≤ k ∧ k < w1.heap.size + 6) wr (some ⟨w1.heap.size + 1 + 1 + 1 + 1 + 1, 0, none⟩) firstL ∧ Old w wr ∧ (∀ k, w1.heap.size ≤ k → k < w1.heap.size + 6 → ¬ H' k) ∧ w1.heap.size + 6 ≤ wr.heap.size ∧ ∀ k, H' k → w.heap.size ≤ k) (fun v _ => 7 - (intOf v).toNat)
  case atStart => exact ⟨0, H, rfl, by omega, hT1, hO, k2, fun k h _ h' => by have := hHl k h'; omega, by omega, hH⟩
  case round =>
    obtain ⟨k, H', rfl, hk, hTr, hOr, hold, hap, hzr, hHr⟩ := hrel
    by_cases hlt : k < 7
    · obtain ⟨b, o, A', c', hA, _, h0, h1, h2, h3, h4, hc, hP⟩ := hOr.at_ (j := k) hlt
      injection hA with hA
      injection hA with hb ho _
      subst hb ho
      simp only [Nat.zero_add] at h0 h1 h2 h3 h4
      generalize firstL[k] = x at *
      have i1 : (0 : Int) ≤ (k : Int) := by omega
      have i2 : (k : Int) < 7 := by omega
      go_wp2_with fail
      refine (plays_any wr H' _ gn gm 3 x.kind x.i x.at_ x.mask A' c' x.sents hTr hP (fun j hj => ⟨by omega, hap j hj.1 hj.2⟩)).mono ?_
      rintro e w3 ⟨rfl, H3, hT3, hH3, hK3⟩
      go_wp2
      refine ⟨⟨k + 1, H3, by go_num, by omega, hT3, hOr.keep (hK3.mono fun j _ hj => hap j hj.1 hj.2), hold.trans hK3 (fun j hj _ h => by have := hHr j h; omega), ?_, ?_, fun j h => by
        have := hold.size
        rcases hH3 j h with h | h
        · exact hHr j h
        · omega⟩, by simp [intOf]; omega⟩
      · intro j hj hj2 h
        rcases hH3 j h with h | h
        · exact hap j hj hj2 h
        · omega
      · have := hK3.size; omega
    · go_wp2
      go_ret
      exact ⟨rfl, hold⟩
end Go.Proofs.Ytgnndggbjipioaa
