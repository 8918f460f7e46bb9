/- weftlaw12.size, begun, few, plus: what the outright statements build with. Conditions: the lists can be read; the table lies. -/
import Derived.Test.YtdpaaoeipconcaaDoorJRewrite
import Derived.Test.YtdpaaoeipconcaaDoorJFirst
namespace Go.Proofs.YtdpaaoeipconcaaDoor
open Go.RowKit

/-! ### size -/

set_option maxHeartbeats 1000000 in
theorem size_any (w : World) (S : Nat → Prop) (A : Option Addr) (c : Nat) (recs : List (List UInt8)) (hr : Rcs S w A recs) (hs : ∀ r ∈ recs, r.length ≤ 65536) (hl : recs.length ≤ 6000000000000) :
    Calls Tryd.prog 27 #[.slice A recs.length c] w fun e w' => e = .returned (.int .i64 ((16 + sizeF recs : Nat) : Int)) ∧ w = w' := by
  have hmono := fun k => sizeF_mono recs k
  have hstep := fun k (hk : k < recs.length) => sizeF_take recs hk
  have hle := sizeF_le recs 65536 hs
  have HM := hid (And.intro hmono (And.intro hstep (And.intro hle hs)))
  clear hmono hstep hle hs
  go_enter Tryd.func27, Tryd.ntmps27
  go_wp2
  go_loopw [3, 4] (fun nv i wr => ∃ k sz : Nat, i = .int .i64 k ∧ k ≤ recs.length ∧ nv = .int .i64 sz ∧ Hid (sz = 16 + sizeF (recs.take k)) ∧ w = wr) (fun _ i _ => recs.length - (intOf i).toNat)
  case atStart => exact ⟨0, 16, rfl, Nat.zero_le _, rfl, hid (by simp [sizeF]), rfl⟩
  case round =>
    obtain ⟨k, sz, rfl, hk, rfl, hsz, rfl⟩ := hrel
    by_cases hlt : k < recs.length
    · obtain ⟨b, o, A', c', rfl, hSb, h0, h1, h2⟩ := hr.at_ hlt
      have e1 := HM.out.2.1 k hlt
      have e2 := HM.out.1 (k + 1)
      have e3 := HM.out.2.2.1
      have e4 := HM.out.2.2.2 recs[k] (List.getElem_mem hlt)
      have i1 : (0 : Int) ≤ (k : Int) := by omega
      have i2 : (k : Int) < (recs.length : Int) := by omega
      have j1 : ¬ (recs[k].length : Int) > 65536 := by omega
      obtain ⟨sz2, hs2⟩ : ∃ sz2, sz2 = sz + 12 + recs[k].length := ⟨_, rfl⟩
      have b1 : IntKind.i64.wrap ((sz : Int) + 12) = (sz : Int) + 12 := by have := hsz.out; rw [IntKind.wrap_i64]; omega
      have b2 : IntKind.i64.wrap ((sz : Int) + 12 + (recs[k].length : Int)) = (sz2 : Int) := by have := hsz.out; rw [IntKind.wrap_i64]; omega
      have HS := hid (show sz2 = 16 + sizeF (recs.take (k + 1)) by have := hsz.out; omega)
      clear e1 e2 e3 e4 hs2
      generalize recs[k] = rec at *
      go_wp2
      exact ⟨⟨k + 1, sz2, by go_num, by omega, rfl, HS, by first | rfl | trivial⟩, by simp [intOf]; omega⟩
    · obtain rfl : k = recs.length := by omega
      have hs := hsz.out
      rw [List.take_length] at hs
      have HS := hid hs
      clear hs
      go_wp2
      go_ret
      exact ⟨by rw [← HS.out]; rfl, rfl⟩

/-! ### lists of records that were there -/

/-- A list of the call's own, of records that lie in S's blocks. -/
structure OwnL (F S : Nat → Prop) (w : World) (L : Value) (q : List (List UInt8 × Value)) : Prop where
  row : w.ownsRow 0 22 1 L q.length (q.map (·.2))
  vb : ∀ x ∈ q, VB S w x.2 x.1
  foot : ∀ k, L.ownBlock = some k → F k

section
variable {F S G : Nat → Prop} {w w' : World} {L L2 : Value} {q : List (List UInt8 × Value)}
theorem OwnL.keep (h : OwnL F S w L q) (hk : Keeps (fun k => F k ∨ S k) w w') : OwnL F S w' L q :=
  ⟨own_keeps h.row hk (fun k hk' => .inl (h.foot k hk')), fun x hx => (h.vb x hx).keep (hk.mono fun _ _ h => .inr h), h.foot⟩
theorem OwnL.nil (F S : Nat → Prop) (w : World) : OwnL F S w (.slice none 0 0) [] := ⟨World.ownsRow_nil _ _ _ _, by simp, by simp [Value.ownBlock]⟩
theorem OwnL.rcs (h : OwnL F S w L q) (hq : q.length ≤ 281474976710656) : ∃ A c, L = .slice A q.length c ∧ q.length ≤ c ∧ Rcs (fun k => F k ∨ S k) w A (q.map (·.1)) := by
  obtain ⟨A, c, rfl, hc, _⟩ := own_slice h.row
  refine ⟨A, c, rfl, hc, by simpa using hq, fun hn => ?_⟩
  rcases h.row.2 with ⟨_, h0⟩ | ⟨g, cap, cur, hv, hb0, hg, hnc, hcm, hcs, ht⟩
  · exact absurd (by simpa using h0) hn
  injection hv with hA _ _
  refine ⟨g, 0, hA, .inl (h.foot g (by rw [hA]; rfl)), fun i hi => ?_⟩
  have hi' : i < q.length := by simpa using hi
  obtain ⟨A', c', e, h1, h2⟩ := h.vb q[i] (List.getElem_mem hi')
  refine ⟨A', c', ?_, by simpa using h1, by simpa using h2.mono fun _ _ h => .inr h⟩
  have hcell : (cur.toList.take (q.length * 1))[i]? = (q.map (·.2))[i]? := by rw [ht]
  rw [Nat.zero_add, cell_of_heap hg]
  rw [List.getElem?_take, if_pos (by omega)] at hcell
  simp only [Array.getElem?_toList] at hcell
  rw [hcell]
  simp [hi', e]
/-- One more. -/
theorem OwnL.push {x : List UInt8 × Value} (h : OwnL F S w L q) (hK : Keeps (fun k => L.ownBlock ≠ some k) w w') (hv : VB S w x.2 x.1) (hSL : ∀ k, S k → L.ownBlock ≠ some k) (hown : w'.ownsRow 0 22 1 L2 (q.length + 1) (q.map (·.2) ++ [x.2])) (hf : ∀ k, L2.ownBlock = some k → F k) :
    OwnL F S w' L2 (q ++ [x]) := by
  refine ⟨by rw [List.map_append, List.length_append]; exact hown, fun y hy => ?_, hf⟩
  rcases List.mem_append.1 hy with hy | hy
  · exact (h.vb y hy).keep (hK.mono fun k _ hk => hSL k hk)
  · obtain rfl : y = x := by simpa using hy
    exact hv.keep (hK.mono fun k _ hk => hSL k hk)
end

/-- The front that has no more than n bytes with its frames. -/
def fewL : List (List UInt8) → Nat → List (List UInt8)
  | [], _ => []
  | r :: rs, n => if 12 + r.length ≤ n then r :: fewL rs (n - (12 + r.length)) else []

theorem few_take : ∀ (recs : List (List UInt8)) (k n : Nat), k ≤ recs.length → sizeF (recs.take k) ≤ n → (∀ h : k < recs.length, n < sizeF (recs.take k) + (12 + recs[k].length)) → fewL recs n = recs.take k
  | [], k, n, _, _, _ => by simp [fewL]
  | r :: rs, 0, n, _, _, h => by
    have h0 := h (by simp)
    simp [sizeF] at h0
    rw [fewL, if_neg (by omega), List.take_zero]
  | r :: rs, k + 1, n, hk, hs, h => by
    rw [List.take_succ_cons] at hs ⊢
    have e : sizeF (r :: rs.take k) = (12 + r.length) + sizeF (rs.take k) := by simp [sizeF]
    rw [e] at hs
    rw [fewL, if_pos (by omega), few_take rs k (n - (12 + r.length)) (by simpa using hk) (by omega) fun hlt => by
      have h1 := h (by simpa using hlt)
      rw [List.take_succ_cons, e] at h1
      simp only [List.getElem_cons_succ] at h1
      omega]
theorem few_size (recs : List (List UInt8)) : ∀ n, sizeF (fewL recs n) ≤ n := by
  induction recs with
  | nil => intro n; simp [fewL, sizeF]
  | cons r rs ih =>
    intro n
    rw [fewL]
    split
    · have := ih (n - (12 + r.length))
      have e : sizeF (r :: fewL rs (n - (12 + r.length))) = (12 + r.length) + sizeF (fewL rs (n - (12 + r.length))) := by simp [sizeF]
      omega
    · simp [sizeF]
theorem size_mem {recs : List (List UInt8)} {n : Nat} (h : sizeF recs ≤ n) : ∀ r ∈ recs, r.length ≤ n := by
  induction recs with
  | nil => intro r hr; simp at hr
  | cons x recs ih =>
    have e : sizeF (x :: recs) = (12 + x.length) + sizeF recs := by simp [sizeF]
    intro r hr
    rcases List.mem_cons.1 hr with rfl | hr
    · omega
    · exact ih (by omega) r hr

/-- A list in new memory of records that were there. -/
def PostL2 (w : World) (S : Nat → Prop) (rs : List (List UInt8)) (e : Ending) (w' : World) : Prop :=
  ∃ L q, e = .returned L ∧ q.map (·.1) = rs ∧ OwnL (fun k => w.heap.size ≤ k) S w' L q ∧ Old w w'

set_option maxHeartbeats 2000000 in
theorem few_any (w : World) (S : Nat → Prop) (A : Option Addr) (c : Nat) (recs : List (List UInt8)) (n : Nat) (hr : Rcs S w A recs) (hS : ∀ k, S k → k < w.heap.size) (hn : n ≤ 1000000) :
    Calls Tryd.prog 40 #[.slice A recs.length c, .int .i64 (n : Int)] w (PostL2 w S (fewL recs n)) := by
  have hl := hr.1
  have hmono := fun k => sizeF_mono recs k
  have hstep := fun k (hk : k < recs.length) => sizeF_take recs hk
  have HM := hid (And.intro hmono hstep)
  clear hmono hstep
  go_enter Tryd.func40, Tryd.ntmps40
  go_wp2
  go_loopw [1, 5, 6] (fun nv lv i wr => ∃ (k m : Nat) (q : List (List UInt8 × Value)), i = .int .i64 k ∧ k ≤ recs.length ∧ nv = .int .i64 m ∧ Hid (m + sizeF (recs.take k) = n) ∧ Hid (q.map (·.1) = recs.take k) ∧ Hid (q.length = k) ∧ Hid (OwnL (fun k => w.heap.size ≤ k) S wr lv q) ∧ Hid (Old w wr)) (fun _ _ i _ => recs.length - (intOf i).toNat)
  case atStart => exact ⟨0, n, [], rfl, Nat.zero_le _, rfl, hid (by simp [sizeF]), hid (by simp), hid rfl, hid (OwnL.nil _ _ _), hid (Keeps.refl _ _)⟩
  case round =>
    obtain ⟨k, m, q, rfl, hk, rfl, hm, hq, hql, hO, hold⟩ := hrel
    obtain ⟨AL, cL, rfl, _, _⟩ := own_slice hO.out.row
    have fin : ∀ h : ¬ (k < recs.length ∧ ∀ h : k < recs.length, 12 + recs[k].length ≤ m), fewL recs n = recs.take k := fun h => few_take recs k n hk (by have := hm.out; omega) fun hlt => by
      have := hm.out
      by_cases hx : 12 + recs[k].length ≤ m
      · exact absurd ⟨hlt, fun _ => hx⟩ h
      · omega
    have FIN := hid fin
    clear fin
    by_cases hlt : k < recs.length
    · obtain ⟨b, o, A', c', rfl, hSb, h0, h1, h2⟩ := (hr.keep (hold.out.old _)).at_ hlt
      have i1 : (0 : Int) ≤ (k : Int) := by omega
      have i2 : (k : Int) < (recs.length : Int) := by omega
      have e1 := HM.out.2 k hlt
      have hmm := hm.out
      have hk12 : 12 * k ≤ n := by
        have h1 := sizeF_num (recs.take k)
        have h2 : (recs.take k).length = k := by simp; omega
        omega
      by_cases hfit : 12 + recs[k].length ≤ m
      · have b1 : IntKind.i64.wrap (12 + (recs[k].length : Int)) = 12 + (recs[k].length : Int) := by rw [IntKind.wrap_i64]; omega
        have j1 : (m : Int) ≥ 12 + (recs[k].length : Int) := by omega
        obtain ⟨m2, hm2⟩ : ∃ m2, m2 = m - (12 + recs[k].length) := ⟨_, rfl⟩
        have b2 : IntKind.i64.wrap ((m : Int) - 12) = (m : Int) - 12 := by rw [IntKind.wrap_i64]; omega
        have b3 : IntKind.i64.wrap ((m : Int) - 12 - (recs[k].length : Int)) = (m2 : Int) := by rw [IntKind.wrap_i64]; omega
        have HM2 := hid (show m2 + sizeF (recs.take (k + 1)) = n by omega)
        have ht : recs.take (k + 1) = recs.take k ++ [recs[k]] := List.take_succ_eq_append_getElem hlt
        have HT := hid ht
        clear e1 hmm hm2 ht hfit FIN
        generalize recs[k] = rec at *
        have hqn := hql.out
        go_upto_region 6 with fail
        have hrow := hO.out.row
        have kw : Old wr (wr.alloc (.cells #[.slice A' rec.length c'] 22)) := (Keeps.refl _ _).alloc _
        have hb : (wr.alloc (.cells #[.slice A' rec.length c'] 22)).heap[wr.heap.size]? = some (.cells #[.slice A' rec.length c'] 22 (0, 0)) := heap_alloc_new _ _
        have hO1 := hO.out.keep (kw.old _)
        have hrow1 := hO1.row
        have hso := hold.out.size
        go_wp2_with (at_builtin; refine wpList_append_ex _ (by rfl) _ _ 35 22 (by rfl) Tryd.underlying35 info22 (by rfl) (by omega) (by rfl) hrow1 (some ⟨wr.heap.size, 0, none⟩) 1 1 [.slice A' rec.length c'] (by rfl) (by rfl) (fun _ => ⟨_, rfl, World.news_of_block hb⟩) (one_one rfl) (by omega) (by unfold maxLen; omega) ?_; intro v5 w5 hown5 hgrow5 hat5)
        have K5 : Keeps (fun k => (Value.slice AL q.length cL).ownBlock ≠ some k) (wr.alloc (.cells #[.slice A' rec.length c'] 22)) w5 := (Keeps.refl _ _).grown hgrow5 (fun k _ h hn => hn h)
        have hfo : ∀ k, (Value.slice AL q.length cL).ownBlock = some k → w.heap.size ≤ k := hO1.foot
        refine ⟨⟨k + 1, m2, q ++ [(rec, .slice A' rec.length c')], by go_num, by omega, rfl, HM2, hid (by rw [List.map_append, hq.out, HT.out]; rfl), hid (by simp; omega),
          hid (hO1.push (x := (rec, .slice A' rec.length c')) K5 ⟨A', c', rfl, h1, h2.keep (kw.old _)⟩ (fun k' hk' e => by have := hS k' hk'; have := hfo k' e; omega) hown5 fun k' hk' => by
            rcases hat5 with e | e
            · rw [e] at hk'; exact hfo k' hk'
            · rw [e] at hk'; injection hk' with hk'; simp at hk'; omega),
          hid ((hold.out.trans' kw).trans K5 fun k' hk' _ e => by have := hfo k' e; omega)⟩, by simp [intOf]; omega⟩
      · have j1 : ¬ (m : Int) ≥ 12 + (recs[k].length : Int) := by omega
        have hr64 := h2.1
        have b1 : IntKind.i64.wrap (12 + (recs[k].length : Int)) = 12 + (recs[k].length : Int) := by rw [IntKind.wrap_i64]; omega
        have hf := FIN.out fun h => hfit (h.2 hlt)
        have HF := hid hf
        clear e1 hmm hfit hf FIN hr64
        generalize recs[k] = rec at *
        go_wp2
        go_ret
        rw [HF.out]
        exact ⟨_, q, rfl, hq.out, hO.out, hold.out⟩
    · have i2 : ¬ (k : Int) < (recs.length : Int) := by omega
      have hf := FIN.out fun h => hlt h.1
      have HF := hid hf
      clear hf FIN
      go_wp2
      go_ret
      rw [HF.out]
      exact ⟨_, q, rfl, hq.out, hO.out, hold.out⟩

set_option maxHeartbeats 2000000 in
theorem plus_any (w : World) (S : Nat → Prop) (A B : Option Addr) (c d : Nat) (recs : List (List UInt8)) (rec : List UInt8) (hr : Rcs S w A recs) (hb : Bts S w B rec) (hd : rec.length ≤ d) (hS : ∀ k, S k → k < w.heap.size) (hl : recs.length ≤ 1000000000000) :
    Calls Tryd.prog 42 #[.slice A recs.length c, .slice B rec.length d] w (PostL2 w S (recs ++ [rec])) := by
  go_enter Tryd.func42, Tryd.ntmps42
  go_wp2
  go_loopw [5, 6] (fun lv i wr => ∃ (k : Nat) (q : List (List UInt8 × Value)), i = .int .i64 k ∧ k ≤ recs.length ∧ Hid (q.map (·.1) = recs.take k) ∧ Hid (q.length = k) ∧ Hid (OwnL (fun k => w.heap.size ≤ k) S wr lv q) ∧ Hid (Old w wr)) (fun _ i _ => recs.length - (intOf i).toNat)
  case atStart => exact ⟨0, [], rfl, Nat.zero_le _, hid (by simp), hid rfl, hid (OwnL.nil _ _ _), hid (Keeps.refl _ _)⟩
  case round =>
    obtain ⟨k, q, rfl, hk, hq, hql, hO, hold⟩ := hrel
    obtain ⟨AL, cL, rfl, _, _⟩ := own_slice hO.out.row
    have hso := hold.out.size
    have hqn := hql.out
    by_cases hlt : k < recs.length
    · obtain ⟨b, o, A', c', rfl, hSb, h0, h1, h2⟩ := (hr.keep (hold.out.old _)).at_ hlt
      have i1 : (0 : Int) ≤ (k : Int) := by omega
      have i2 : (k : Int) < (recs.length : Int) := by omega
      have HT := hid (show recs.take (k + 1) = recs.take k ++ [recs[k]] from List.take_succ_eq_append_getElem hlt)
      generalize recs[k] = rc at *
      go_upto_region 5 with fail
      have kw : Old wr (wr.alloc (.cells #[.slice A' rc.length c'] 22)) := (Keeps.refl _ _).alloc _
      have hbb : (wr.alloc (.cells #[.slice A' rc.length c'] 22)).heap[wr.heap.size]? = some (.cells #[.slice A' rc.length c'] 22 (0, 0)) := heap_alloc_new _ _
      have hO1 := hO.out.keep (kw.old _)
      have hrow1 := hO1.row
      go_wp2_with (at_builtin; refine wpList_append_ex _ (by rfl) _ _ 35 22 (by rfl) Tryd.underlying35 info22 (by rfl) (by omega) (by rfl) hrow1 (some ⟨wr.heap.size, 0, none⟩) 1 1 [.slice A' rc.length c'] (by rfl) (by rfl) (fun _ => ⟨_, rfl, World.news_of_block hbb⟩) (one_one rfl) (by omega) (by unfold maxLen; omega) ?_; intro v5 w5 hown5 hgrow5 hat5)
      have K5 : Keeps (fun k => (Value.slice AL q.length cL).ownBlock ≠ some k) (wr.alloc (.cells #[.slice A' rc.length c'] 22)) w5 := (Keeps.refl _ _).grown hgrow5 (fun k _ h hn => hn h)
      have hfo : ∀ k, (Value.slice AL q.length cL).ownBlock = some k → w.heap.size ≤ k := hO1.foot
      refine ⟨⟨k + 1, q ++ [(rc, .slice A' rc.length c')], by go_num, by omega, hid (by rw [List.map_append, hq.out, HT.out]; rfl), hid (by simp; omega),
        hid (hO1.push (x := (rc, .slice A' rc.length c')) K5 ⟨A', c', rfl, h1, h2.keep (kw.old _)⟩ (fun k' hk' e => by have := hS k' hk'; have := hfo k' e; omega) hown5 fun k' hk' => by
          rcases hat5 with e | e
          · rw [e] at hk'; exact hfo k' hk'
          · rw [e] at hk'; injection hk' with hk'; simp at hk'; omega),
        hid ((hold.out.trans' kw).trans K5 fun k' hk' _ e => by have := hfo k' e; omega)⟩, by simp [intOf]; omega⟩
    · obtain rfl : k = recs.length := by omega
      have hqr := hq.out
      rw [List.take_length] at hqr
      have HQ := hid hqr
      clear hqr
      go_upto_region 6 with fail
      have kw : Old wr (wr.alloc (.cells #[.slice B rec.length d] 22)) := (Keeps.refl _ _).alloc _
      have hbb : (wr.alloc (.cells #[.slice B rec.length d] 22)).heap[wr.heap.size]? = some (.cells #[.slice B rec.length d] 22 (0, 0)) := heap_alloc_new _ _
      have hO1 := hO.out.keep (kw.old _)
      have hrow1 := hO1.row
      go_wp2_with (at_builtin; refine wpList_append_ex _ (by rfl) _ _ 35 22 (by rfl) Tryd.underlying35 info22 (by rfl) (by omega) (by rfl) hrow1 (some ⟨wr.heap.size, 0, none⟩) 1 1 [.slice B rec.length d] (by rfl) (by rfl) (fun _ => ⟨_, rfl, World.news_of_block hbb⟩) (one_one rfl) (by omega) (by unfold maxLen; omega) ?_; intro v5 w5 hown5 hgrow5 hat5)
      have K5 : Keeps (fun k => (Value.slice AL q.length cL).ownBlock ≠ some k) (wr.alloc (.cells #[.slice B rec.length d] 22)) w5 := (Keeps.refl _ _).grown hgrow5 (fun k _ h hn => hn h)
      have hfo : ∀ k, (Value.slice AL q.length cL).ownBlock = some k → w.heap.size ≤ k := hO1.foot
      go_ret
      exact ⟨v5, q ++ [(rec, .slice B rec.length d)], rfl, by rw [List.map_append, HQ.out]; rfl,
        hO1.push (x := (rec, .slice B rec.length d)) K5 ⟨B, d, rfl, hd, hb.keep ((hold.out.trans' kw).old _)⟩ (fun k' hk' e => by have := hS k' hk'; have := hfo k' e; omega) hown5 fun k' hk' => by
          rcases hat5 with e | e
          · rw [e] at hk'; exact hfo k' hk'
          · rw [e] at hk'; injection hk' with hk'; simp at hk'; omega,
        (hold.out.trans' kw).trans K5 fun k' hk' _ e => by have := hfo k' e; omega⟩

/-- A new journal, and a tale. -/
def PostBegun (w : World) (j0 : Jn) (e : Ending) (w' : World) : Prop :=
  ∃ F g t vA vB vP q, e = .returned (.tuple #[.pointer (some ⟨g, 0, none⟩), .pointer (some ⟨t, 0, none⟩)]) ∧ LNet F w' g vA vB vP q j0 ∧ (∀ k, F k → w.heap.size ≤ k) ∧ Old w w'

set_option maxHeartbeats 2000000 in
theorem begun_any (w : World) (hT : Tab w) (j0 : Jn) (h0 : openJ ([], []) = some (j0, [])) : Calls Tryd.prog 28 #[] w (PostBegun w j0) := by
  have ho := lopen_any w (fun _ => False) none none 0 0 0 0 [] [] (Bts.nil _ _ _) (Bts.nil _ _ _) rfl rfl (Nat.le_refl _) (Nat.le_refl _) hT
  rw [h0] at ho
  clear h0
  go_enter Tryd.func28, Tryd.ntmps28
  go_wp2_with fail
  refine ho.mono ?_
  rintro e w1 ⟨F, g, vA, vB, vP, q, L, ql, rfl, hL, hF, hql, hoL, k1⟩
  clear ho hql
  obtain ⟨AL, cL, rfl, _, _⟩ := own_slice hoL.row
  clear hoL
  have z1 := k1.size
  obtain ⟨W1, hW1⟩ : ∃ W, W = w1.alloc (.cells #[.slice none 0 0] 35) := ⟨_, rfl⟩
  obtain ⟨W2, hW2⟩ : ∃ W, W = W1.alloc (.cells #[.slice (some ⟨w1.heap.size, 0, none⟩) 1 1, .slice none 0 0, .slice none 0 0, .int .i64 16, .int .i64 16] 60) := ⟨_, rfl⟩
  have k2 : Old w1 W2 := by rw [hW2, hW1]; exact ((Keeps.refl _ _).alloc _).alloc _
  have hs1 : W1.heap.size = w1.heap.size + 1 := by rw [hW1]; simp
  have hb2 : W2.heap[w1.heap.size + 1]? = some (.cells #[.slice (some ⟨w1.heap.size, 0, none⟩) 1 1, .slice none 0 0, .slice none 0 0, .int .i64 16, .int .i64 16] 60 (0, 0)) := by rw [hW2, ← hs1]; exact heap_alloc_new _ _
  go_upto_region 3 with fail
  rw [hW1] at hW2
  rw [← hW2]
  clear hW2 hW1
  obtain ⟨W3, hW3⟩ : ∃ W, W = W2.alloc (.cells #[.int .i64 0, .int .i64 0, .int .i64 0] 62) := ⟨_, rfl⟩
  have k3 : Old W2 W3 := by rw [hW3]; exact (Keeps.refl _ _).alloc _
  have hb3 := k3.heap hb2 trivial
  have c1 : W3.cell? ⟨w1.heap.size + 1, 1, none⟩ = some (.slice none 0 0) := cell_of_heap hb3
  have cf : ∀ i, W3.frozen? ⟨w1.heap.size + 1, i, none⟩ = false := fun i => frozen_of_heap hb3
  have z2 := k2.size
  have KS : Keeps (· ≠ w1.heap.size + 1) W3 (W3.setCell ⟨w1.heap.size + 1, 1, none⟩ (.slice (some ⟨W2.heap.size, 0, none⟩) 1 1)) := (Keeps.refl _ _).setCell (fun _ h => h rfl) _
  have hLt := hL.lt
  have R := hid (And.intro ((hL.keep ((k2.trans' k3).old _)).keep (KS.mono fun k _ h => by have := hLt k h; show k ≠ _; omega)) (((k1.trans' k2).trans' k3).trans KS fun k hk _ => by show k ≠ _; omega))
  clear KS
  have c1' : ∀ o : Obj, o = .cells #[.int .i64 0, .int .i64 0, .int .i64 0] 62 → (W2.alloc o).cell? ⟨w1.heap.size + 1, 1, none⟩ = some (.slice none 0 0) := fun o ho => by rw [ho, ← hW3]; exact c1
  have cf' : ∀ o : Obj, ∀ i, o = .cells #[.int .i64 0, .int .i64 0, .int .i64 0] 62 → (W2.alloc o).frozen? ⟨w1.heap.size + 1, i, none⟩ = false := fun o i ho => by rw [ho, ← hW3]; exact cf i
  have d1 := c1' _ rfl
  have df := fun i => cf' _ i rfl
  clear c1' cf'
  go_upto_region 4 with fail
  rw [← hW3]
  clear hW3
  go_wp2
  refine bodyPost_ret (v := .tuple #[.pointer (some ⟨g, 0, none⟩), .pointer (some ⟨w1.heap.size + 1, 0, none⟩)]) (by simp [results, Tryd.results28, go_sem]) rfl ⟨F, g, _, vA, vB, vP, q, rfl, R.out.1, hF, R.out.2⟩
end Go.Proofs.YtdpaaoeipconcaaDoor
