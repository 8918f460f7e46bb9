/- Journals in memory (package journal's and the document's): the words; same; Size, Dirty. Conditions: the journal lies; the bytes can be read. -/
import Derived.Test.YtdpaaoeipconcaaDoorJFrames
namespace Go.Proofs.YtdpaaoeipconcaaDoor
open Go.RowKit

theorem take_eq_step {α : Type} {xs ys : List α} {k : Nat} (h : xs.take k = ys.take k) (ha : k < xs.length) (hb : k < ys.length) (he : xs[k] = ys[k]) : xs.take (k + 1) = ys.take (k + 1) := by
  rw [List.take_succ_eq_append_getElem ha, List.take_succ_eq_append_getElem hb, h, he]

theorem bv_ne {a b : UInt8} (h : a ≠ b) : ((a.toNat : Int) == (b.toNat : Int)) = false := by
  rw [beq_eq_false_iff_ne]
  intro e
  exact h (UInt8.toNat_inj.1 (by omega))

def PostSame (w : World) (r : Bool) (e : Ending) (w' : World) : Prop := e = .returned (.bool r) ∧ ∃ n, w.drewN n = w'

set_option maxHeartbeats 1000000 in
theorem same_any (w : World) (S T : Nat → Prop) (A B : Option Addr) (c d : Nat) (xs ys : List UInt8) (ha : Bts S w A xs) (hb : Bts T w B ys) :
    Calls Tryd.prog 48 #[.slice A xs.length c, .slice B ys.length d] w (PostSame w (decide (xs = ys))) := by
  have hal := ha.1
  have hbl := hb.1
  by_cases hlen : xs.length = ys.length
  · have hne : ((xs.length : Int) == (ys.length : Int)) = true := by simp [hlen]
    have hne' : ((xs.length : Int) != (ys.length : Int)) = false := by simp [hlen]
    have HL := hid hlen; clear hlen
    go_enter Tryd.func48, Tryd.ntmps48
    go_wp2
    go_loopw [5] (fun i wr => ∃ k n : Nat, i = .int .i64 k ∧ k ≤ xs.length ∧ Hid (xs.take k = ys.take k) ∧ Hid (w.drewN n = wr)) (fun i _ => xs.length - (intOf i).toNat)
    case atStart => exact ⟨0, 0, rfl, Nat.zero_le _, hid (by simp), hid rfl⟩
    case round =>
      obtain ⟨k, n, rfl, hk, hT, hW⟩ := hrel
      have hWo := hW.out
      subst hWo
      by_cases hlt : k < xs.length
      · have hltb : k < ys.length := by have := HL.out; omega
        obtain ⟨b1, o1, rfl, _, h1⟩ := ha.at_ hlt
        obtain ⟨b2, o2, rfl, _, h2⟩ := hb.at_ hltb
        have i1 : (0 : Int) ≤ (k : Int) := by omega
        have i2 : (k : Int) < (xs.length : Int) := by omega
        have i3 : (k : Int) < (ys.length : Int) := by omega
        by_cases he : xs[k] = ys[k]
        · have hq : ((xs[k].toNat : Int) != (ys[k].toNat : Int)) = false := by simp [he]
          have hq2 : ((xs[k].toNat : Int) == (ys[k].toNat : Int)) = true := by simp [he]
          have HE := hid he; clear he
          go_wp2
          go_quiet (fail)
          go_wp2
          exact ⟨⟨k + 1, n + nq, by go_num, by omega, hid (take_eq_step hT.out hlt hltb HE.out), hid rfl⟩, by simp [intOf]; omega⟩
        · have hq2 := bv_ne he
          have hq : ((xs[k].toNat : Int) != (ys[k].toNat : Int)) = true := by rw [bne, hq2]; rfl
          go_wp2
          go_quiet (fail)
          go_wp2
          go_ret
          refine ⟨?_, n + nq, (World.drewN_drewN ..).symm⟩
          rw [decide_eq_false (fun h => he (by subst h; rfl))]
          rfl
      · go_wp2
        go_ret
        refine ⟨?_, n, rfl⟩
        have hkl : k = xs.length := by omega
        have hT' := hT.out
        rw [hkl, List.take_length, List.take_of_length_le (by rw [HL.out]; exact Nat.le_refl _)] at hT'
        rw [decide_eq_true hT']
        rfl
  · have hne : ((xs.length : Int) == (ys.length : Int)) = false := by rw [beq_eq_false_iff_ne]; omega
    have hne' : ((xs.length : Int) != (ys.length : Int)) = true := by rw [bne_iff_ne]; omega
    go_enter Tryd.func48, Tryd.ntmps48
    go_wp2
    go_ret
    refine ⟨?_, 0, rfl⟩
    rw [decide_eq_false (fun h => hlen (by rw [h]))]
    rfl


/-- What holds of a journal. -/
structure Good (j : Jn) : Prop where
  cur : j.cur ≤ 1
  gen : j.gen < 4294967296
  nr : 16 + 12 * j.nr ≤ j.end_
  end_ : j.end_ ≤ 1048576
  fits : Fits j.ws (j.dA, j.dB)
  la : j.dA.length ≤ 1048576
  lb : j.dB.length ≤ 1048576
  wl : ∀ x ∈ j.ws, x.at_ + x.bytes.length ≤ 1048576
  endOk : j.end_ ≤ (if j.cur = 0 then (layAll j.ws (j.dA, j.dB)).1 else (layAll j.ws (j.dA, j.dB)).2).length

/-- A journal of package journal at block g. -/
structure LNet (F : Nat → Prop) (w : World) (g : Nat) (vA vB vP : Value) (q : List (Wr × Value)) (j : Jn) : Prop where
  head : w.heap[g]? = some (.cells #[vA, vB, vP, .int .i64 (j.cur : Int), .int .u32 (j.gen : Int), .int .u32 (j.nr : Int), .int .i64 (j.end_ : Int)] 97 (0, 0))
  a : OwnB F w vA j.dA
  b : OwnB F w vB j.dB
  p : Pend 99 F w vP q
  pq : q.map (·.1) = j.ws
  ab : ∀ k, vA.ownBlock = some k → vB.ownBlock ≠ some k
  ap : ∀ x ∈ q, ∀ k, x.2.ownBlock = some k → vA.ownBlock ≠ some k ∧ vB.ownBlock ≠ some k
  fg : F g
  lt : ∀ k, F k → k < w.heap.size
  good : Good j

/-- The document's journal at block g. -/
structure RNet (F : Nat → Prop) (w : World) (g : Nat) (vA vB vP : Value) (q : List (Wr × Value)) (j : Jn) : Prop where
  head : w.heap[g]? = some (.cells #[vA, vB, vP, .int .i64 (j.cur : Int), .int .i64 (j.gen : Int), .int .i64 (j.nr : Int), .int .i64 (j.end_ : Int)] 91 (0, 0))
  a : OwnB F w vA j.dA
  b : OwnB F w vB j.dB
  p : Pend 93 F w vP q
  pq : q.map (·.1) = j.ws
  fg : F g
  lt : ∀ k, F k → k < w.heap.size
  good : Good j

section
variable {F : Nat → Prop} {w w' : World} {g : Nat} {vA vB vP : Value} {q : List (Wr × Value)} {j : Jn}
theorem LNet.keep (h : LNet F w g vA vB vP q j) (hk : Keeps F w w') : LNet F w' g vA vB vP q j :=
  ⟨hk.heap h.head h.fg, h.a.keep hk, h.b.keep hk, h.p.keep hk, h.pq, h.ab, h.ap, h.fg, fun k hk' => Nat.lt_of_lt_of_le (h.lt k hk') hk.size, h.good⟩
theorem RNet.keep (h : RNet F w g vA vB vP q j) (hk : Keeps F w w') : RNet F w' g vA vB vP q j :=
  ⟨hk.heap h.head h.fg, h.a.keep hk, h.b.keep hk, h.p.keep hk, h.pq, h.fg, fun k hk' => Nat.lt_of_lt_of_le (h.lt k hk') hk.size, h.good⟩

set_option maxHeartbeats 1000000 in
theorem lsize_any (h : LNet F w g vA vB vP q j) : Calls Tryd.prog 21 #[.pointer (some ⟨g, 0, none⟩)] w fun e w' => e = .returned (.int .i64 (j.end_ : Int)) ∧ w = w' := by
  have c6 : w.cell? ⟨g, 6, none⟩ = some (.int .i64 (j.end_ : Int)) := cell_of_heap h.head
  go_enter Tryd.func21, Tryd.ntmps21
  go_wp2
  go_ret
  exact ⟨rfl, rfl⟩
set_option maxHeartbeats 1000000 in
theorem rsize_any (h : RNet F w g vA vB vP q j) : Calls Tryd.prog 22 #[.pointer (some ⟨g, 0, none⟩)] w fun e w' => e = .returned (.int .i64 (j.end_ : Int)) ∧ w = w' := by
  have c6 : w.cell? ⟨g, 6, none⟩ = some (.int .i64 (j.end_ : Int)) := cell_of_heap h.head
  go_enter Tryd.func22, Tryd.ntmps22
  go_wp2
  go_ret
  exact ⟨rfl, rfl⟩
end

theorem dirtyN_le (ws : List Wr) (h : ∀ x ∈ ws, x.bytes.length ≤ 1048576) : dirtyN ws ≤ 1048576 * ws.length := by
  induction ws with
  | nil => simp [dirtyN]
  | cons x ws ih =>
    have h1 := h x (List.mem_cons_self ..)
    have h2 := ih fun y hy => h y (List.mem_cons_of_mem _ hy)
    simp only [dirtyN, List.map_cons, List.sum_cons, List.length_cons] at h2 ⊢
    omega
theorem dirtyN_take (ws : List Wr) (k : Nat) (h : k < ws.length) : dirtyN (ws.take (k + 1)) = dirtyN (ws.take k) + ws[k].bytes.length := by
  rw [List.take_succ_eq_append_getElem h]
  unfold dirtyN
  rw [List.map_append, List.sum_append]
  simp

section
variable {F : Nat → Prop} {w : World} {g : Nat} {vA vB vP : Value} {q : List (Wr × Value)} {j : Jn}
set_option maxHeartbeats 1000000 in
theorem rdirty_any (h : RNet F w g vA vB vP q j) (hw : j.ws.length ≤ 4000000000000) : Calls Tryd.prog 20 #[.pointer (some ⟨g, 0, none⟩)] w fun e w' => e = .returned (.int .i64 (dirtyN j.ws : Nat)) ∧ w = w' := by
  have hql : q.length = j.ws.length := by rw [← h.pq]; simp
  have hd : ∀ k, dirtyN (j.ws.take k) ≤ 1048576 * 4000000000000 := fun k => by
    have := dirtyN_le (j.ws.take k) fun x hx => by have := h.good.wl x (List.mem_of_mem_take hx); omega
    have hl : (j.ws.take k).length ≤ j.ws.length := List.length_take_le' ..
    omega
  obtain ⟨AP, cP, hvP, hcP, _⟩ := own_slice h.p.row
  have c2 : w.cell? ⟨g, 2, none⟩ = some vP := cell_of_heap h.head
  rw [hvP, hql] at c2
  have HD := hid hd
  have HQ := hid hql
  have HPQ := hid h.pq
  clear hd hql
  go_enter Tryd.func20, Tryd.ntmps20
  go_wp2
  go_loopw [3, 4] (fun n i wr => ∃ k : Nat, i = .int .i64 k ∧ k ≤ j.ws.length ∧ n = .int .i64 (dirtyN (j.ws.take k) : Nat) ∧ wr = w) (fun _ i _ => j.ws.length - (intOf i).toNat)
  case atStart => exact ⟨0, rfl, Nat.zero_le _, rfl, rfl⟩
  case round =>
    obtain ⟨k, rfl, hk, rfl, rfl⟩ := hrel
    by_cases hlt : k < j.ws.length
    · obtain ⟨b, c, A', c', hL, _, _, _, _, _, _, h2, _, _⟩ := h.p.at_ (i := k) (by rw [HQ.out]; exact hlt)
      rw [hL] at hvP
      injection hvP with hA _ _
      subst hA
      have hqk : q[k]'(by rw [HQ.out]; exact hlt) = (j.ws[k], (q[k]'(by rw [HQ.out]; exact hlt)).2) := by
        have : (q.map (·.1))[k]'(by simp; rw [HQ.out]; exact hlt) = j.ws[k] := by simp only [HPQ.out]
        rw [← this]; simp
      rw [hqk] at h2
      simp only at h2
      have e1 := dirtyN_take j.ws k hlt
      have d1 := HD.out (k + 1)
      have i1 : (0 : Int) ≤ (k : Int) := by omega
      have i2 : (k : Int) < (j.ws.length : Int) := by omega
      have E1 := hid e1
      have b1 : IntKind.i64.wrap (((dirtyN (j.ws.take k) : Nat) : Int) + (j.ws[k].bytes.length : Int)) = ((dirtyN (j.ws.take (k + 1)) : Nat) : Int) := by rw [IntKind.wrap_i64, e1]; omega
      clear e1 d1
      generalize hdk : dirtyN (j.ws.take (k + 1)) = dk1 at *
      have HDK := hid hdk
      clear hdk
      generalize dirtyN (j.ws.take k) = dk at *
      go_wp2
      exact ⟨⟨k + 1, by go_num, by omega, by rw [HDK.out], by first | rfl | trivial⟩, by simp [intOf]; omega⟩
    · obtain rfl : k = j.ws.length := by omega
      rw [List.take_length]
      go_wp2
      go_ret
      exact ⟨rfl, rfl⟩

set_option maxHeartbeats 1000000 in
theorem ldirty_any (h : LNet F w g vA vB vP q j) (hw : j.ws.length ≤ 4000000000000) : Calls Tryd.prog 23 #[.pointer (some ⟨g, 0, none⟩)] w fun e w' => e = .returned (.int .i64 (dirtyN j.ws : Nat)) ∧ Old w w' := by
  have hql : q.length = j.ws.length := by rw [← h.pq]; simp
  have hd : ∀ k, dirtyN (j.ws.take k) ≤ 1048576 * 4000000000000 := fun k => by
    have := dirtyN_le (j.ws.take k) fun x hx => by have := h.good.wl x (List.mem_of_mem_take hx); omega
    have hl : (j.ws.take k).length ≤ j.ws.length := List.length_take_le' ..
    omega
  obtain ⟨AP, cP, hvP, hcP, _⟩ := own_slice h.p.row
  have c2 : w.cell? ⟨g, 2, none⟩ = some vP := cell_of_heap h.head
  rw [hvP, hql] at c2
  have HD := hid hd
  have HQ := hid hql
  have HPQ := hid h.pq
  clear hd hql
  go_enter Tryd.func23, Tryd.ntmps23
  go_wp2
  go_loopw [3, 5, 11] (fun n _ i wr => ∃ k : Nat, i = .int .i64 k ∧ k ≤ j.ws.length ∧ n = .int .i64 (dirtyN (j.ws.take k) : Nat) ∧ Old w wr) (fun _ _ i _ => j.ws.length - (intOf i).toNat)
  case atStart => exact ⟨0, rfl, Nat.zero_le _, rfl, Keeps.refl _ _⟩
  case round =>
    obtain ⟨k, rfl, hk, rfl, hold⟩ := hrel
    by_cases hlt : k < j.ws.length
    · obtain ⟨b, c, A', c', hL, _, _, _, _, h0, h1, h2, _, _⟩ := (h.keep (hold.old _)).p.at_ (i := k) (by rw [HQ.out]; exact hlt)
      rw [hL] at hvP
      injection hvP with hA _ _
      subst hA
      have hqk : q[k]'(by rw [HQ.out]; exact hlt) = (j.ws[k], (q[k]'(by rw [HQ.out]; exact hlt)).2) := by
        have : (q.map (·.1))[k]'(by simp; rw [HQ.out]; exact hlt) = j.ws[k] := by simp only [HPQ.out]
        rw [← this]; simp
      rw [hqk] at h0 h1 h2
      simp only at h0 h1 h2
      have e1 := dirtyN_take j.ws k hlt
      have d1 := HD.out (k + 1)
      have i1 : (0 : Int) ≤ (k : Int) := by omega
      have i2 : (k : Int) < (j.ws.length : Int) := by omega
      have b1 : IntKind.i64.wrap (((dirtyN (j.ws.take k) : Nat) : Int) + (j.ws[k].bytes.length : Int)) = ((dirtyN (j.ws.take (k + 1)) : Nat) : Int) := by rw [IntKind.wrap_i64, e1]; omega
      clear e1 d1
      generalize hdk : dirtyN (j.ws.take (k + 1)) = dk1 at *
      have HDK := hid hdk
      clear hdk
      generalize dirtyN (j.ws.take k) = dk at *
      go_wp2
      exact ⟨⟨k + 1, by go_num, by omega, by rw [HDK.out], hold.alloc _⟩, by simp [intOf]; omega⟩
    · obtain rfl : k = j.ws.length := by omega
      rw [List.take_length]
      go_wp2
      go_ret
      exact ⟨rfl, hold⟩
end
end Go.Proofs.YtdpaaoeipconcaaDoor
