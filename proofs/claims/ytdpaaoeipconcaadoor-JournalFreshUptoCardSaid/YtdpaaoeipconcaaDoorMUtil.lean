/- weftlaw12.size, begun, few, plus: what the outright statements build with. Conditions: the lists can be read; the table lies. weftlaw12.size of any list, place; append of bytes to a list of the call's own. Conditions: the lists can be read. append onto any slice that begins a block of one-cell elements: what lies there then, in its own place or in a new one. Conditions: the block's first cells are known, the sizes are small. -/
import Derived.Test.YtdpaaoeipconcaaDoorJRewrite
import Derived.Test.YtdpaaoeipconcaaDoorJFirst
namespace Go.Proofs.YtdpaaoeipconcaaDoor
open Go.RowKit

/-! ### size -/

set_option maxHeartbeats 1000000 in
theorem size_any (w : World) (S : Nat → Prop) (A : Option Addr) (c : Nat) (recs : List (List UInt8)) (hr : Rcs S w A recs) (hs : ∀ r ∈ recs, r.length ≤ 65536) (hl : recs.length ≤ 6000000000000) :
    Calls Tryd.prog 27 #[.slice A recs.length c] w fun e w' => e = .returned (.int .i64 ((16 + sizeF recs : Nat) : Int)) ∧ w = w' := by
  have hmono := fun k => sizeF_mono recs k
  have hstep := fun k (hk : k < recs.length) => sizeF_take recs hk
  have hle := sizeF_le recs 65536 hs
  have HM := hid (And.intro hmono (And.intro hstep (And.intro hle hs)))
  clear hmono hstep hle hs
  go_enter Tryd.func27, Tryd.ntmps27
  go_wp2
  go_loopw [3, 4] (fun nv i wr => ∃ k sz : Nat, i = .int .i64 k ∧ k ≤ recs.length ∧ nv = .int .i64 sz ∧ Hid (sz = 16 + sizeF (recs.take k)) ∧ w = wr) (fun _ i _ => recs.length - (intOf i).toNat)
  case atStart => exact ⟨0, 16, rfl, Nat.zero_le _, rfl, hid (by simp [sizeF]), rfl⟩
  case round =>
    obtain ⟨k, sz, rfl, hk, rfl, hsz, rfl⟩ := hrel
    by_cases hlt : k < recs.length
    · obtain ⟨b, o, A', c', rfl, hSb, h0, h1, h2⟩ := hr.at_ hlt
      have e1 := HM.out.2.1 k hlt
      have e2 := HM.out.1 (k + 1)
      have e3 := HM.out.2.2.1
      have e4 := HM.out.2.2.2 recs[k] (List.getElem_mem hlt)
      have i1 : (0 : Int) ≤ (k : Int) := by omega
      have i2 : (k : Int) < (recs.length : Int) := by omega
      have j1 : ¬ (recs[k].length : Int) > 65536 := by omega
      obtain ⟨sz2, hs2⟩ : ∃ sz2, sz2 = sz + 12 + recs[k].length := ⟨_, rfl⟩
      have b1 : IntKind.i64.wrap ((sz : Int) + 12) = (sz : Int) + 12 := by have := hsz.out; rw [IntKind.wrap_i64]; omega
      have b2 : IntKind.i64.wrap ((sz : Int) + 12 + (recs[k].length : Int)) = (sz2 : Int) := by have := hsz.out; rw [IntKind.wrap_i64]; omega
      have HS := hid (show sz2 = 16 + sizeF (recs.take (k + 1)) by have := hsz.out; omega)
      clear e1 e2 e3 e4 hs2
      generalize recs[k] = rec at *
      go_wp2
      exact ⟨⟨k + 1, sz2, by go_num, by omega, rfl, HS, by first | rfl | trivial⟩, by simp [intOf]; omega⟩
    · obtain rfl : k = recs.length := by omega
      have hs := hsz.out
      rw [List.take_length] at hs
      have HS := hid hs
      clear hs
      go_wp2
      go_ret
      exact ⟨by rw [← HS.out]; rfl, rfl⟩

/-! ### lists of records that were there -/

/-- A list of the call's own, of records that lie in S's blocks. -/
structure OwnL (F S : Nat → Prop) (w : World) (L : Value) (q : List (List UInt8 × Value)) : Prop where
  row : w.ownsRow 0 22 1 L q.length (q.map (·.2))
  vb : ∀ x ∈ q, VB S w x.2 x.1
  foot : ∀ k, L.ownBlock = some k → F k

section
variable {F S G : Nat → Prop} {w w' : World} {L L2 : Value} {q : List (List UInt8 × Value)}
theorem OwnL.keep (h : OwnL F S w L q) (hk : Keeps (fun k => F k ∨ S k) w w') : OwnL F S w' L q :=
  ⟨own_keeps h.row hk (fun k hk' => .inl (h.foot k hk')), fun x hx => (h.vb x hx).keep (hk.mono fun _ _ h => .inr h), h.foot⟩
theorem OwnL.nil (F S : Nat → Prop) (w : World) : OwnL F S w (.slice none 0 0) [] := ⟨World.ownsRow_nil _ _ _ _, by simp, by simp [Value.ownBlock]⟩
theorem OwnL.rcs (h : OwnL F S w L q) (hq : q.length ≤ 281474976710656) : ∃ A c, L = .slice A q.length c ∧ q.length ≤ c ∧ Rcs (fun k => F k ∨ S k) w A (q.map (·.1)) := by
  obtain ⟨A, c, rfl, hc, _⟩ := own_slice h.row
  refine ⟨A, c, rfl, hc, by simpa using hq, fun hn => ?_⟩
  rcases h.row.2 with ⟨_, h0⟩ | ⟨g, cap, cur, hv, hb0, hg, hnc, hcm, hcs, ht⟩
  · exact absurd (by simpa using h0) hn
  injection hv with hA _ _
  refine ⟨g, 0, hA, .inl (h.foot g (by rw [hA]; rfl)), fun i hi => ?_⟩
  have hi' : i < q.length := by simpa using hi
  obtain ⟨A', c', e, h1, h2⟩ := h.vb q[i] (List.getElem_mem hi')
  refine ⟨A', c', ?_, by simpa using h1, by simpa using h2.mono fun _ _ h => .inr h⟩
  have hcell : (cur.toList.take (q.length * 1))[i]? = (q.map (·.2))[i]? := by rw [ht]
  rw [Nat.zero_add, cell_of_heap hg]
  rw [List.getElem?_take, if_pos (by omega)] at hcell
  simp only [Array.getElem?_toList] at hcell
  rw [hcell]
  simp [hi', e]
/-- One more. -/
theorem OwnL.push {x : List UInt8 × Value} (h : OwnL F S w L q) (hK : Keeps (fun k => L.ownBlock ≠ some k) w w') (hv : VB S w x.2 x.1) (hSL : ∀ k, S k → L.ownBlock ≠ some k) (hown : w'.ownsRow 0 22 1 L2 (q.length + 1) (q.map (·.2) ++ [x.2])) (hf : ∀ k, L2.ownBlock = some k → F k) :
    OwnL F S w' L2 (q ++ [x]) := by
  refine ⟨by rw [List.map_append, List.length_append]; exact hown, fun y hy => ?_, hf⟩
  rcases List.mem_append.1 hy with hy | hy
  · exact (h.vb y hy).keep (hK.mono fun k _ hk => hSL k hk)
  · obtain rfl : y = x := by simpa using hy
    exact hv.keep (hK.mono fun k _ hk => hSL k hk)
end

/-- The front that has no more than n bytes with its frames. -/
def fewL : List (List UInt8) → Nat → List (List UInt8)
  | [], _ => []
  | r :: rs, n => if 12 + r.length ≤ n then r :: fewL rs (n - (12 + r.length)) else []

theorem few_take : ∀ (recs : List (List UInt8)) (k n : Nat), k ≤ recs.length → sizeF (recs.take k) ≤ n → (∀ h : k < recs.length, n < sizeF (recs.take k) + (12 + recs[k].length)) → fewL recs n = recs.take k
  | [], k, n, _, _, _ => by simp [fewL]
  | r :: rs, 0, n, _, _, h => by
    have h0 := h (by simp)
    simp [sizeF] at h0
    rw [fewL, if_neg (by omega), List.take_zero]
  | r :: rs, k + 1, n, hk, hs, h => by
    rw [List.take_succ_cons] at hs ⊢
    have e : sizeF (r :: rs.take k) = (12 + r.length) + sizeF (rs.take k) := by simp [sizeF]
    rw [e] at hs
    rw [fewL, if_pos (by omega), few_take rs k (n - (12 + r.length)) (by simpa using hk) (by omega) fun hlt => by
      have h1 := h (by simpa using hlt)
      rw [List.take_succ_cons, e] at h1
      simp only [List.getElem_cons_succ] at h1
      omega]
theorem few_size (recs : List (List UInt8)) : ∀ n, sizeF (fewL recs n) ≤ n := by
  induction recs with
  | nil => intro n; simp [fewL, sizeF]
  | cons r rs ih =>
    intro n
    rw [fewL]
    split
    · have := ih (n - (12 + r.length))
      have e : sizeF (r :: fewL rs (n - (12 + r.length))) = (12 + r.length) + sizeF (fewL rs (n - (12 + r.length))) := by simp [sizeF]
      omega
    · simp [sizeF]
theorem size_mem {recs : List (List UInt8)} {n : Nat} (h : sizeF recs ≤ n) : ∀ r ∈ recs, r.length ≤ n := by
  induction recs with
  | nil => intro r hr; simp at hr
  | cons x recs ih =>
    have e : sizeF (x :: recs) = (12 + x.length) + sizeF recs := by simp [sizeF]
    intro r hr
    rcases List.mem_cons.1 hr with rfl | hr
    · omega
    · exact ih (by omega) r hr

/-- A list in new memory of records that were there. -/
def PostL2 (w : World) (S : Nat → Prop) (rs : List (List UInt8)) (e : Ending) (w' : World) : Prop :=
  ∃ L q, e = .returned L ∧ q.map (·.1) = rs ∧ OwnL (fun k => w.heap.size ≤ k) S w' L q ∧ Old w w'

set_option maxHeartbeats 2000000 in
theorem few_any (w : World) (S : Nat → Prop) (A : Option Addr) (c : Nat) (recs : List (List UInt8)) (n : Nat) (hr : Rcs S w A recs) (hS : ∀ k, S k → k < w.heap.size) (hn : n ≤ 1000000) :
    Calls Tryd.prog 40 #[.slice A recs.length c, .int .i64 (n : Int)] w (PostL2 w S (fewL recs n)) := by
  have hl := hr.1
  have hmono := fun k => sizeF_mono recs k
  have hstep := fun k (hk : k < recs.length) => sizeF_take recs hk
  have HM := hid (And.intro hmono hstep)
  clear hmono hstep
  go_enter Tryd.func40, Tryd.ntmps40
  go_wp2
  go_loopw [1, 5, 6] (fun nv lv i wr => ∃ (k m : Nat) (q : List (List UInt8 × Value)), i = .int .i64 k ∧ k ≤ recs.length ∧ nv = .int .i64 m ∧ Hid (m + sizeF (recs.take k) = n) ∧ Hid (q.map (·.1) = recs.take k) ∧ Hid (q.length = k) ∧ Hid (OwnL (fun k => w.heap.size ≤ k) S wr lv q) ∧ Hid (Old w wr)) (fun _ _ i _ => recs.length - (intOf i).toNat)
  case atStart => exact ⟨0, n, [], rfl, Nat.zero_le _, rfl, hid (by simp [sizeF]), hid (by simp), hid rfl, hid (OwnL.nil _ _ _), hid (Keeps.refl _ _)⟩
  case round =>
    obtain ⟨k, m, q, rfl, hk, rfl, hm, hq, hql, hO, hold⟩ := hrel
    obtain ⟨AL, cL, rfl, _, _⟩ := own_slice hO.out.row
    have fin : ∀ h : ¬ (k < recs.length ∧ ∀ h : k < recs.length, 12 + recs[k].length ≤ m), fewL recs n = recs.take k := fun h => few_take recs k n hk (by have := hm.out; omega) fun hlt => by
      have := hm.out
      by_cases hx : 12 + recs[k].length ≤ m
      · exact absurd ⟨hlt, fun _ => hx⟩ h
      · omega
    have FIN := hid fin
    clear fin
    by_cases hlt : k < recs.length
    · obtain ⟨b, o, A', c', rfl, hSb, h0, h1, h2⟩ := (hr.keep (hold.out.old _)).at_ hlt
      have i1 : (0 : Int) ≤ (k : Int) := by omega
      have i2 : (k : Int) < (recs.length : Int) := by omega
      have e1 := HM.out.2 k hlt
      have hmm := hm.out
      have hk12 : 12 * k ≤ n := by
        have h1 := sizeF_num (recs.take k)
        have h2 : (recs.take k).length = k := by simp; omega
        omega
      by_cases hfit : 12 + recs[k].length ≤ m
      · have b1 : IntKind.i64.wrap (12 + (recs[k].length : Int)) = 12 + (recs[k].length : Int) := by rw [IntKind.wrap_i64]; omega
        have j1 : (m : Int) ≥ 12 + (recs[k].length : Int) := by omega
        obtain ⟨m2, hm2⟩ : ∃ m2, m2 = m - (12 + recs[k].length) := ⟨_, rfl⟩
        have b2 : IntKind.i64.wrap ((m : Int) - 12) = (m : Int) - 12 := by rw [IntKind.wrap_i64]; omega
        have b3 : IntKind.i64.wrap ((m : Int) - 12 - (recs[k].length : Int)) = (m2 : Int) := by rw [IntKind.wrap_i64]; omega
        have HM2 := hid (show m2 + sizeF (recs.take (k + 1)) = n by omega)
        have ht : recs.take (k + 1) = recs.take k ++ [recs[k]] := List.take_succ_eq_append_getElem hlt
        have HT := hid ht
        clear e1 hmm hm2 ht hfit FIN
        generalize recs[k] = rec at *
        have hqn := hql.out
        go_upto_region 6 with fail
        have hrow := hO.out.row
        have kw : Old wr (wr.alloc (.cells #[.slice A' rec.length c'] 22)) := (Keeps.refl _ _).alloc _
        have hb : (wr.alloc (.cells #[.slice A' rec.length c'] 22)).heap[wr.heap.size]? = some (.cells #[.slice A' rec.length c'] 22 (0, 0)) := heap_alloc_new _ _
        have hO1 := hO.out.keep (kw.old _)
        have hrow1 := hO1.row
        have hso := hold.out.size
        go_wp2_with (at_builtin; refine wpList_append_ex _ (by rfl) _ _ 35 22 (by rfl) Tryd.underlying35 info22 (by rfl) (by omega) (by rfl) hrow1 (some ⟨wr.heap.size, 0, none⟩) 1 1 [.slice A' rec.length c'] (by rfl) (by rfl) (fun _ => ⟨_, rfl, World.news_of_block hb⟩) (one_one rfl) (by omega) (by unfold maxLen; omega) ?_; intro v5 w5 hown5 hgrow5 hat5)
        have K5 : Keeps (fun k => (Value.slice AL q.length cL).ownBlock ≠ some k) (wr.alloc (.cells #[.slice A' rec.length c'] 22)) w5 := (Keeps.refl _ _).grown hgrow5 (fun k _ h hn => hn h)
        have hfo : ∀ k, (Value.slice AL q.length cL).ownBlock = some k → w.heap.size ≤ k := hO1.foot
        refine ⟨⟨k + 1, m2, q ++ [(rec, .slice A' rec.length c')], by go_num, by omega, rfl, HM2, hid (by rw [List.map_append, hq.out, HT.out]; rfl), hid (by simp; omega),
          hid (hO1.push (x := (rec, .slice A' rec.length c')) K5 ⟨A', c', rfl, h1, h2.keep (kw.old _)⟩ (fun k' hk' e => by have := hS k' hk'; have := hfo k' e; omega) hown5 fun k' hk' => by
            rcases hat5 with e | e
            · rw [e] at hk'; exact hfo k' hk'
            · rw [e] at hk'; injection hk' with hk'; simp at hk'; omega),
          hid ((hold.out.trans' kw).trans K5 fun k' hk' _ e => by have := hfo k' e; omega)⟩, by simp [intOf]; omega⟩
      · have j1 : ¬ (m : Int) ≥ 12 + (recs[k].length : Int) := by omega
        have hr64 := h2.1
        have b1 : IntKind.i64.wrap (12 + (recs[k].length : Int)) = 12 + (recs[k].length : Int) := by rw [IntKind.wrap_i64]; omega
        have hf := FIN.out fun h => hfit (h.2 hlt)
        have HF := hid hf
        clear e1 hmm hfit hf FIN hr64
        generalize recs[k] = rec at *
        go_wp2
        go_ret
        rw [HF.out]
        exact ⟨_, q, rfl, hq.out, hO.out, hold.out⟩
    · have i2 : ¬ (k : Int) < (recs.length : Int) := by omega
      have hf := FIN.out fun h => hlt h.1
      have HF := hid hf
      clear hf FIN
      go_wp2
      go_ret
      rw [HF.out]
      exact ⟨_, q, rfl, hq.out, hO.out, hold.out⟩

set_option maxHeartbeats 2000000 in
theorem plus_any (w : World) (S : Nat → Prop) (A B : Option Addr) (c d : Nat) (recs : List (List UInt8)) (rec : List UInt8) (hr : Rcs S w A recs) (hb : Bts S w B rec) (hd : rec.length ≤ d) (hS : ∀ k, S k → k < w.heap.size) (hl : recs.length ≤ 1000000000000) :
    Calls Tryd.prog 42 #[.slice A recs.length c, .slice B rec.length d] w (PostL2 w S (recs ++ [rec])) := by
  go_enter Tryd.func42, Tryd.ntmps42
  go_wp2
  go_loopw [5, 6] (fun lv i wr => ∃ (k : Nat) (q : List (List UInt8 × Value)), i = .int .i64 k ∧ k ≤ recs.length ∧ Hid (q.map (·.1) = recs.take k) ∧ Hid (q.length = k) ∧ Hid (OwnL (fun k => w.heap.size ≤ k) S wr lv q) ∧ Hid (Old w wr)) (fun _ i _ => recs.length - (intOf i).toNat)
  case atStart => exact ⟨0, [], rfl, Nat.zero_le _, hid (by simp), hid rfl, hid (OwnL.nil _ _ _), hid (Keeps.refl _ _)⟩
  case round =>
    obtain ⟨k, q, rfl, hk, hq, hql, hO, hold⟩ := hrel
    obtain ⟨AL, cL, rfl, _, _⟩ := own_slice hO.out.row
    have hso := hold.out.size
    have hqn := hql.out
    by_cases hlt : k < recs.length
    · obtain ⟨b, o, A', c', rfl, hSb, h0, h1, h2⟩ := (hr.keep (hold.out.old _)).at_ hlt
      have i1 : (0 : Int) ≤ (k : Int) := by omega
      have i2 : (k : Int) < (recs.length : Int) := by omega
      have HT := hid (show recs.take (k + 1) = recs.take k ++ [recs[k]] from List.take_succ_eq_append_getElem hlt)
      generalize recs[k] = rc at *
      go_upto_region 5 with fail
      have kw : Old wr (wr.alloc (.cells #[.slice A' rc.length c'] 22)) := (Keeps.refl _ _).alloc _
      have hbb : (wr.alloc (.cells #[.slice A' rc.length c'] 22)).heap[wr.heap.size]? = some (.cells #[.slice A' rc.length c'] 22 (0, 0)) := heap_alloc_new _ _
      have hO1 := hO.out.keep (kw.old _)
      have hrow1 := hO1.row
      go_wp2_with (at_builtin; refine wpList_append_ex _ (by rfl) _ _ 35 22 (by rfl) Tryd.underlying35 info22 (by rfl) (by omega) (by rfl) hrow1 (some ⟨wr.heap.size, 0, none⟩) 1 1 [.slice A' rc.length c'] (by rfl) (by rfl) (fun _ => ⟨_, rfl, World.news_of_block hbb⟩) (one_one rfl) (by omega) (by unfold maxLen; omega) ?_; intro v5 w5 hown5 hgrow5 hat5)
      have K5 : Keeps (fun k => (Value.slice AL q.length cL).ownBlock ≠ some k) (wr.alloc (.cells #[.slice A' rc.length c'] 22)) w5 := (Keeps.refl _ _).grown hgrow5 (fun k _ h hn => hn h)
      have hfo : ∀ k, (Value.slice AL q.length cL).ownBlock = some k → w.heap.size ≤ k := hO1.foot
      refine ⟨⟨k + 1, q ++ [(rc, .slice A' rc.length c')], by go_num, by omega, hid (by rw [List.map_append, hq.out, HT.out]; rfl), hid (by simp; omega),
        hid (hO1.push (x := (rc, .slice A' rc.length c')) K5 ⟨A', c', rfl, h1, h2.keep (kw.old _)⟩ (fun k' hk' e => by have := hS k' hk'; have := hfo k' e; omega) hown5 fun k' hk' => by
          rcases hat5 with e | e
          · rw [e] at hk'; exact hfo k' hk'
          · rw [e] at hk'; injection hk' with hk'; simp at hk'; omega),
        hid ((hold.out.trans' kw).trans K5 fun k' hk' _ e => by have := hfo k' e; omega)⟩, by simp [intOf]; omega⟩
    · obtain rfl : k = recs.length := by omega
      have hqr := hq.out
      rw [List.take_length] at hqr
      have HQ := hid hqr
      clear hqr
      go_upto_region 6 with fail
      have kw : Old wr (wr.alloc (.cells #[.slice B rec.length d] 22)) := (Keeps.refl _ _).alloc _
      have hbb : (wr.alloc (.cells #[.slice B rec.length d] 22)).heap[wr.heap.size]? = some (.cells #[.slice B rec.length d] 22 (0, 0)) := heap_alloc_new _ _
      have hO1 := hO.out.keep (kw.old _)
      have hrow1 := hO1.row
      go_wp2_with (at_builtin; refine wpList_append_ex _ (by rfl) _ _ 35 22 (by rfl) Tryd.underlying35 info22 (by rfl) (by omega) (by rfl) hrow1 (some ⟨wr.heap.size, 0, none⟩) 1 1 [.slice B rec.length d] (by rfl) (by rfl) (fun _ => ⟨_, rfl, World.news_of_block hbb⟩) (one_one rfl) (by omega) (by unfold maxLen; omega) ?_; intro v5 w5 hown5 hgrow5 hat5)
      have K5 : Keeps (fun k => (Value.slice AL q.length cL).ownBlock ≠ some k) (wr.alloc (.cells #[.slice B rec.length d] 22)) w5 := (Keeps.refl _ _).grown hgrow5 (fun k _ h hn => hn h)
      have hfo : ∀ k, (Value.slice AL q.length cL).ownBlock = some k → w.heap.size ≤ k := hO1.foot
      go_ret
      exact ⟨v5, q ++ [(rec, .slice B rec.length d)], rfl, by rw [List.map_append, HQ.out]; rfl,
        hO1.push (x := (rec, .slice B rec.length d)) K5 ⟨B, d, rfl, hd, hb.keep ((hold.out.trans' kw).old _)⟩ (fun k' hk' e => by have := hS k' hk'; have := hfo k' e; omega) hown5 fun k' hk' => by
          rcases hat5 with e | e
          · rw [e] at hk'; exact hfo k' hk'
          · rw [e] at hk'; injection hk' with hk'; simp at hk'; omega,
        (hold.out.trans' kw).trans K5 fun k' hk' _ e => by have := hfo k' e; omega⟩

/-- A new journal, and a tale. -/
def PostBegun (w : World) (j0 : Jn) (e : Ending) (w' : World) : Prop :=
  ∃ F g t vA vB vP q, e = .returned (.tuple #[.pointer (some ⟨g, 0, none⟩), .pointer (some ⟨t, 0, none⟩)]) ∧ LNet F w' g vA vB vP q j0 ∧ (∀ k, F k → w.heap.size ≤ k) ∧ Old w w'

set_option maxHeartbeats 2000000 in
theorem begun_any (w : World) (hT : Tab w) (j0 : Jn) (h0 : openJ ([], []) = some (j0, [])) : Calls Tryd.prog 28 #[] w (PostBegun w j0) := by
  have ho := lopen_any w (fun _ => False) none none 0 0 0 0 [] [] (Bts.nil _ _ _) (Bts.nil _ _ _) rfl rfl (Nat.le_refl _) (Nat.le_refl _) hT
  rw [h0] at ho
  clear h0
  go_enter Tryd.func28, Tryd.ntmps28
  go_wp2_with fail
  refine ho.mono ?_
  rintro e w1 ⟨F, g, vA, vB, vP, q, L, ql, rfl, hL, hF, hql, hoL, k1⟩
  clear ho hql
  obtain ⟨AL, cL, rfl, _, _⟩ := own_slice hoL.row
  clear hoL
  have z1 := k1.size
  obtain ⟨W1, hW1⟩ : ∃ W, W = w1.alloc (.cells #[.slice none 0 0] 35) := ⟨_, rfl⟩
  obtain ⟨W2, hW2⟩ : ∃ W, W = W1.alloc (.cells #[.slice (some ⟨w1.heap.size, 0, none⟩) 1 1, .slice none 0 0, .slice none 0 0, .int .i64 16, .int .i64 16] 60) := ⟨_, rfl⟩
  have k2 : Old w1 W2 := by rw [hW2, hW1]; exact ((Keeps.refl _ _).alloc _).alloc _
  have hs1 : W1.heap.size = w1.heap.size + 1 := by rw [hW1]; simp
  have hb2 : W2.heap[w1.heap.size + 1]? = some (.cells #[.slice (some ⟨w1.heap.size, 0, none⟩) 1 1, .slice none 0 0, .slice none 0 0, .int .i64 16, .int .i64 16] 60 (0, 0)) := by rw [hW2, ← hs1]; exact heap_alloc_new _ _
  go_upto_region 3 with fail
  rw [hW1] at hW2
  rw [← hW2]
  clear hW2 hW1
  obtain ⟨W3, hW3⟩ : ∃ W, W = W2.alloc (.cells #[.int .i64 0, .int .i64 0, .int .i64 0] 62) := ⟨_, rfl⟩
  have k3 : Old W2 W3 := by rw [hW3]; exact (Keeps.refl _ _).alloc _
  have hb3 := k3.heap hb2 trivial
  have c1 : W3.cell? ⟨w1.heap.size + 1, 1, none⟩ = some (.slice none 0 0) := cell_of_heap hb3
  have cf : ∀ i, W3.frozen? ⟨w1.heap.size + 1, i, none⟩ = false := fun i => frozen_of_heap hb3
  have z2 := k2.size
  have KS : Keeps (· ≠ w1.heap.size + 1) W3 (W3.setCell ⟨w1.heap.size + 1, 1, none⟩ (.slice (some ⟨W2.heap.size, 0, none⟩) 1 1)) := (Keeps.refl _ _).setCell (fun _ h => h rfl) _
  have hLt := hL.lt
  have R := hid (And.intro ((hL.keep ((k2.trans' k3).old _)).keep (KS.mono fun k _ h => by have := hLt k h; show k ≠ _; omega)) (((k1.trans' k2).trans' k3).trans KS fun k hk _ => by show k ≠ _; omega))
  clear KS
  have c1' : ∀ o : Obj, o = .cells #[.int .i64 0, .int .i64 0, .int .i64 0] 62 → (W2.alloc o).cell? ⟨w1.heap.size + 1, 1, none⟩ = some (.slice none 0 0) := fun o ho => by rw [ho, ← hW3]; exact c1
  have cf' : ∀ o : Obj, ∀ i, o = .cells #[.int .i64 0, .int .i64 0, .int .i64 0] 62 → (W2.alloc o).frozen? ⟨w1.heap.size + 1, i, none⟩ = false := fun o i ho => by rw [ho, ← hW3]; exact cf i
  have d1 := c1' _ rfl
  have df := fun i => cf' _ i rfl
  clear c1' cf'
  go_upto_region 4 with fail
  rw [← hW3]
  clear hW3
  go_wp2
  refine bodyPost_ret (v := .tuple #[.pointer (some ⟨g, 0, none⟩), .pointer (some ⟨w1.heap.size + 1, 0, none⟩)]) (by simp [results, Tryd.results28, go_sem]) rfl ⟨F, g, _, vA, vB, vP, q, rfl, R.out.1, hF, R.out.2⟩
end Go.Proofs.YtdpaaoeipconcaaDoor

namespace Go.Proofs.YtdpaaoeipconcaaDoor
open Go.RowKit

/-- what size answers: -1: one is too long -/
def sizeI (recs : List (List UInt8)) : Int := if ∃ r ∈ recs, 65536 < r.length then -1 else ((16 + sizeF recs : Nat) : Int)
theorem sizeI_ok {recs : List (List UInt8)} (h : ∀ r ∈ recs, r.length ≤ 65536) : sizeI recs = ((16 + sizeF recs : Nat) : Int) := if_neg fun ⟨r, hr, hl⟩ => by have := h r hr; omega
theorem sizeI_neg {recs : List (List UInt8)} (h : ¬ ∀ r ∈ recs, r.length ≤ 65536) : sizeI recs = -1 := if_pos (by
  by_cases hx : ∃ r ∈ recs, 65536 < r.length
  · exact hx
  · exact absurd (fun r hr => by
      by_cases hl : r.length ≤ 65536
      · exact hl
      · exact absurd ⟨r, hr, by omega⟩ hx) h)

set_option maxHeartbeats 1000000 in
theorem size_gen (w : World) (S : Nat → Prop) (A : Option Addr) (c : Nat) (recs : List (List UInt8)) (hr : Rcs S w A recs) (hl : recs.length ≤ 6000000000000) :
    Calls Tryd.prog 27 #[.slice A recs.length c] w fun e w' => e = .returned (.int .i64 (sizeI recs)) ∧ w = w' := by
  have hstep := fun k (hk : k < recs.length) => sizeF_take recs hk
  have hle := fun k (hs : ∀ r ∈ recs.take k, r.length ≤ 65536) => sizeF_le (recs.take k) 65536 hs
  have hyes := @sizeI_ok recs
  have hno := @sizeI_neg recs
  have HM := hid (And.intro hstep (And.intro hle (And.intro hyes hno)))
  clear hstep hle hyes hno
  go_enter Tryd.func27, Tryd.ntmps27
  go_wp2
  go_loopw [3, 4] (fun nv i wr => ∃ k sz : Nat, i = .int .i64 k ∧ k ≤ recs.length ∧ nv = .int .i64 sz ∧ Hid (sz = 16 + sizeF (recs.take k)) ∧ Hid (∀ r ∈ recs.take k, r.length ≤ 65536) ∧ w = wr) (fun _ i _ => recs.length - (intOf i).toNat)
  case atStart => exact ⟨0, 16, rfl, Nat.zero_le _, rfl, hid (by simp [sizeF]), hid (by simp), rfl⟩
  case round =>
    obtain ⟨k, sz, rfl, hk, rfl, hsz, hsm, rfl⟩ := hrel
    by_cases hlt : k < recs.length
    · obtain ⟨b, o, A', c', rfl, hSb, h0, h1, h2⟩ := hr.at_ hlt
      have e1 := HM.out.1 k hlt
      have e3 := HM.out.2.1 k hsm.out
      have e4 : (recs.take k).length = k := by rw [List.length_take]; omega
      rw [e4] at e3
      have i1 : (0 : Int) ≤ (k : Int) := by omega
      have i2 : (k : Int) < (recs.length : Int) := by omega
      by_cases hfit : recs[k].length ≤ 65536
      · have j1 : ¬ (recs[k].length : Int) > 65536 := by omega
        obtain ⟨sz2, hs2⟩ : ∃ sz2, sz2 = sz + 12 + recs[k].length := ⟨_, rfl⟩
        have b1 : IntKind.i64.wrap ((sz : Int) + 12) = (sz : Int) + 12 := by have := hsz.out; rw [IntKind.wrap_i64]; omega
        have b2 : IntKind.i64.wrap ((sz : Int) + 12 + (recs[k].length : Int)) = (sz2 : Int) := by have := hsz.out; rw [IntKind.wrap_i64]; omega
        have HS := hid (show sz2 = 16 + sizeF (recs.take (k + 1)) by have := hsz.out; omega)
        have HA := hid (show ∀ r ∈ recs.take (k + 1), r.length ≤ 65536 by
          rw [List.take_succ_eq_append_getElem hlt]
          intro r hr
          rcases List.mem_append.1 hr with hr | hr
          · exact hsm.out r hr
          · obtain rfl : r = recs[k] := by simpa using hr
            exact hfit)
        clear e1 e3 e4 hs2 hfit
        generalize recs[k] = rec at *
        go_wp2
        exact ⟨⟨k + 1, sz2, by go_num, by omega, rfl, HS, HA, by first | rfl | trivial⟩, by simp [intOf]; omega⟩
      · have j1 : (recs[k].length : Int) > 65536 := by omega
        have HN := hid (HM.out.2.2.2 fun h => hfit (h _ (List.getElem_mem hlt)))
        clear e1 e3 e4 hfit
        generalize recs[k] = rec at *
        go_wp2
        go_ret
        exact ⟨by rw [HN.out]; rfl, rfl⟩
    · obtain rfl : k = recs.length := by omega
      have hs := hsz.out
      have hm := hsm.out
      rw [List.take_length] at hs hm
      have HS := hid (hs.trans rfl)
      have HY := hid (HM.out.2.2.1 hm)
      clear hs hm
      go_wp2
      go_ret
      exact ⟨by rw [HY.out, HS.out]; rfl, rfl⟩

set_option maxHeartbeats 1000000 in
theorem place_any (w : World) (S : Nat → Prop) (A : Option Addr) (c : Nat) (recs : List (List UInt8)) (hr : Rcs S w A recs) (hs : ∀ r ∈ recs, r.length ≤ 65536) (hl : recs.length ≤ 6000000000000) (hc : recs.length ≤ c) (i : Nat) (hi : i ≤ recs.length) :
    Calls Tryd.prog 31 #[.slice A recs.length c, .int .i64 (i : Int)] w fun e w' => e = .returned (.int .i64 ((16 + sizeF (recs.take i) : Nat) : Int)) ∧ w = w' := by
  have hsz : Calls Tryd.prog 27 #[.slice A i c] w fun e w' => e = .returned (.int .i64 ((16 + sizeF (recs.take i) : Nat) : Int)) ∧ w = w' := by
    have hrt : Rcs S w A (recs.take i) := ⟨by have := hr.1; simp; omega, fun hn => by
      have h0 : recs ≠ [] := fun e => hn (by rw [e]; simp)
      obtain ⟨b, o, e, hs, hc⟩ := hr.2 h0
      refine ⟨b, o, e, hs, fun j hj => ?_⟩
      have hj' : j < recs.length := by simp at hj; omega
      obtain ⟨A', c', h1, h2, h3⟩ := hc j hj'
      simp only [List.getElem_take]
      exact ⟨A', c', h1, h2, h3⟩⟩
    have h := size_any w S A c (recs.take i) hrt (fun r h => hs r (List.mem_of_mem_take h)) (by simp; omega)
    rw [List.length_take, Nat.min_eq_left hi] at h; exact h
  have i0 : (0 : Int) ≤ (i : Int) := by omega
  have i1 : i ≤ c := by omega
  generalize 16 + sizeF (recs.take i) = z at *
  clear hs
  go_enter Tryd.func31, Tryd.ntmps31
  go_wp2_with fail
  refine hsz.mono ?_
  rintro e w' ⟨rfl, rfl⟩
  clear hsz
  go_wp2
  go_ret
  exact ⟨rfl, rfl⟩

/-- Bytes behind bytes of the call's own. -/
theorem wpList_app5 {w : World} {ops : Array Oper} {rest : List Oper} {o : Oper} {a : Act} {Q : Exit → Act → World → Prop} (hgd : o.guard = none) (s x : Operand)
    (ho : o.op = .call { callee := .builtin .append, args := #[s, x], argTypes := #[22, 22] })
    {F S : Nat → Prop} {v : Value} {xs ys : List UInt8} (hs : a.eval s = v) (hown : OwnB F w v xs)
    (A : Option Addr) (m c : Nat) (hx : a.eval x = .slice A m c) (hm : m = ys.length) (hy : Bts S w A ys) (hb : xs.length + ys.length ≤ 140737488355328)
    (h : ∀ v' w', OwnB (fun k => F k ∨ w.heap.size ≤ k) w' v' (xs ++ ys) → Keeps (fun k => ¬ F k) w w' → wpList Tryd.prog ops Q rest (a.put o.dst v') w') : wpList Tryd.prog ops Q (o :: rest) a w := by
  subst hm
  refine wpList_append_ex _ hgd s x 22 5 ho Tryd.underlying22 info5 (by rfl) (by omega) hs hown.row A ys.length c (ys.map bv) hx (by simp) (fun h => (by obtain ⟨ad, e, _, h⟩ := hy.src (by simpa using h); exact ⟨ad, e, h⟩)) (bv_one ys) (by omega) (by unfold maxLen; omega) fun v' w' h1 h2 h3 => h v' w' ⟨by rw [List.length_append, List.map_append]; exact h1, fun k hk => ?_, by rw [List.length_append]; omega⟩ ?_
  · rcases h3 with e | e
    · rw [e] at hk; exact .inl (hown.foot k hk)
    · rw [e] at hk; injection hk with hk; right; omega
  · exact (Keeps.refl _ _).grown h2 fun k _ e hn => hn (hown.foot k e)
end Go.Proofs.YtdpaaoeipconcaaDoor

namespace Go.Proofs.YtdpaaoeipconcaaDoor
open Go.RowKit

/-- A block of cap cells whose first ones are xs. -/
def Row1 (w : World) (e g cap : Nat) (xs : List Value) : Prop := ∃ cur : Array Value, w.heap[g]? = some (.cells cur e (0, 0)) ∧ cur.size = cap ∧ xs.length ≤ cap ∧ cur.toList.take xs.length = xs

section
variable {S : Nat → Prop} {w w' : World} {e g cap : Nat} {xs : List Value}
theorem Row1.lt (h : Row1 w e g cap xs) : g < w.heap.size := by
  obtain ⟨cur, hg, _⟩ := h
  exact lt_of_heap hg
theorem Row1.le (h : Row1 w e g cap xs) : xs.length ≤ cap := by
  obtain ⟨cur, _, _, h, _⟩ := h
  exact h
theorem Row1.keep (h : Row1 w e g cap xs) (hk : Keeps S w w') (hs : S g) : Row1 w' e g cap xs := by
  obtain ⟨cur, hg, rest⟩ := h
  exact ⟨cur, hk.heap hg hs, rest⟩
theorem Row1.cell (h : Row1 w e g cap xs) {i : Nat} (hi : i < xs.length) : w.cell? ⟨g, i, none⟩ = xs[i]? := by
  obtain ⟨cur, hg, hs, hl, ht⟩ := h
  rw [cell_of_heap hg, ← ht, List.getElem?_take, if_pos hi]
  simp
theorem Row1.some_ (h : Row1 w e g cap xs) {i : Nat} (hi : i < cap) : ∃ v, w.cell? ⟨g, i, none⟩ = some v := by
  obtain ⟨cur, hg, hs, hl, ht⟩ := h
  rw [cell_of_heap hg]
  exact ⟨cur[i], Array.getElem?_eq_getElem (by omega)⟩
theorem Row1.frozen (h : Row1 w e g cap xs) (i : Nat) : w.frozen? ⟨g, i, none⟩ = false := by
  obtain ⟨cur, hg, _⟩ := h
  exact frozen_of_heap hg
theorem Row1.ofOwn {b n c : Nat} (h : w.ownsRow b e 1 (.slice (some ⟨g, 0, none⟩) n c) n xs) : Row1 w e g c xs := by
  obtain ⟨hl, h | ⟨g', cap, cur, hv, hb, hg, hnc, hcm, hcs, ht⟩⟩ := h
  · simp at h
  · injection hv with hA _ hc
    injection hA with hA
    injection hA with hA _ _
    subst hA hc
    have hn : xs.length = n := by omega
    refine ⟨cur, hg, by omega, by omega, ?_⟩
    rw [hn]
    simpa using ht
theorem Row1.own (h : Row1 w e g cap xs) {n : Nat} (hn : n = xs.length) (hc : cap ≤ maxLen) : w.ownsRow 0 e 1 (.slice (some ⟨g, 0, none⟩) n cap) n xs := by
  obtain ⟨cur, hg, hs, hl, ht⟩ := h
  exact ⟨by omega, .inr ⟨g, cap, cur, rfl, Nat.zero_le _, hg, by omega, hc, by omega, by rw [hn, Nat.mul_one]; exact ht⟩⟩
theorem Row1.take (h : Row1 w e g cap xs) (n : Nat) : Row1 w e g cap (xs.take n) := by
  obtain ⟨cur, hg, hs, hl, ht⟩ := h
  refine ⟨cur, hg, hs, by rw [List.length_take]; omega, ?_⟩
  rw [List.length_take]
  conv => rhs; rw [← ht, List.take_take]
/-- A store inside, or just behind. -/
theorem Row1.set (h : Row1 w e g cap xs) (i : Nat) (v : Value) : Row1 (w.setCell ⟨g, i, none⟩ v) e g cap (xs.set i v) := by
  obtain ⟨cur, hg, hs, hl, ht⟩ := h
  refine ⟨cur.setIfInBounds i v, heap_setCell hg v, by simpa using hs, by simpa using hl, ?_⟩
  rw [Array.toList_setIfInBounds, List.length_set, List.take_set, ht]
theorem Row1.push (h : Row1 w e g cap xs) (hi : xs.length < cap) (v : Value) : Row1 (w.setCell ⟨g, xs.length, none⟩ v) e g cap (xs ++ [v]) := by
  obtain ⟨cur, hg, hs, hl, ht⟩ := h
  refine ⟨cur.setIfInBounds xs.length v, heap_setCell hg v, by simpa using hs, by rw [List.length_append]; exact hi, ?_⟩
  have hlt : xs.length < cur.toList.length := by simpa [hs] using hi
  rw [Array.toList_setIfInBounds, List.length_append, List.length_singleton, List.take_set, List.take_succ_eq_append_getElem hlt, ht, List.set_append_right _ _ (Nat.le_refl _), Nat.sub_self]
  rfl
end

theorem add_none0 (b o i : Nat) : (⟨b, o, none⟩ : Addr).add i = ⟨b, o + i, none⟩ := by
  unfold Addr.add
  split <;> simp_all

/-- What an append onto the first n of a block answers, and leaves. -/
def App1 (w : World) (e g cap n : Nat) (xs news : List Value) (v : Value) (w' : World) : Prop :=
  (n + news.length ≤ cap ∧ v = .slice (some ⟨g, 0, none⟩) (n + news.length) cap ∧ Row1 w' e g cap (xs.take n ++ news ++ xs.drop (n + news.length)) ∧ Keeps (· ≠ g) w w' ∧ w'.heap.size = w.heap.size) ∨
  (cap < n + news.length ∧ ∃ cap', n + news.length ≤ cap' ∧ cap' ≤ maxLen ∧ v = .slice (some ⟨w.heap.size, 0, none⟩) (n + news.length) cap' ∧ Row1 w' e w.heap.size cap' (xs.take n ++ news) ∧ Old w w' ∧ w'.heap.size = w.heap.size + 1)

section
variable {P : Program} (w : World)

theorem run_app1 (t ty e : TypeId) {z : Value} {bytes : Nat} (ht : P.underlying t = some (.slice e)) (hi : (P.info? e).map (fun i => (i.zero, i.size, i.bytes)) = some (some z, 1, bytes)) (hz1 : z.cells.size = 1)
    {g cap n : Nat} {xs : List Value} (hr : Row1 w e g cap xs) (hn : n ≤ xs.length) (ad : Addr) (m c : Nat) (news : List Value) (hl : news.length = m) (hnews : ∀ j u, news[j]? = some u → w.cell? (ad.add j) = some u) (h1 : ∀ u ∈ news, u.oneCell' = true)
    (hm : 0 < m) (hb : (n + m) * bytes ≤ 140737488355328) (h63 : n + m ≤ maxLen) :
    ∃ v' w', (Builtin.append_ #[t, t] ty #[.slice (some ⟨g, 0, none⟩) n cap, .slice (some ad) m c]).run P w = .ok v' w' ∧ App1 w e g cap n xs news v' w' := by
  obtain ⟨i, hi0, hz0, hzs, hzb⟩ := info_parts hi
  subst hl
  have hsm : n + news.length ≤ 9223372036854775807 := by simp only [maxLen] at h63; omega
  obtain ⟨cur, hg, hs, hle, htk⟩ := hr
  have hnx : (xs.take n).length = n := by rw [List.length_take]; omega
  have htn : cur.toList.take n = xs.take n := by rw [← htk, List.take_take, Nat.min_eq_left hn]
  by_cases hroom : n + news.length ≤ cap
  · have hrun := run_append_room (P := P) w t ty e i ht hi0 g n cap cur hg ad news.length c news (by rw [hzs, Nat.mul_one]) hnews h1 hroom (by rw [hzs, Nat.mul_one, hs]; exact hroom)
    rw [hzs, Nat.mul_one] at hrun
    refine ⟨_, _, hrun, .inl ⟨hroom, rfl, ⟨_, setRow_heap w g cur _ e _ hg, ?_, ?_, ?_⟩, (Keeps.refl _ _).setRow (by simp) _, by simp [World.setRow]⟩⟩
    · simp only [List.size_toArray, List.length_append, List.length_take, List.length_drop, Array.length_toList]
      omega
    · simp only [List.length_append, List.length_take, List.length_drop]
      omega
    · have hd : (cur.toList.drop (n + news.length)).take (xs.length - (n + news.length)) = xs.drop (n + news.length) := by
        rw [← List.drop_take, htk]
      rw [htn]
      show (xs.take n ++ news ++ cur.toList.drop (n + news.length)).take _ = _
      rw [List.length_append, List.take_append, List.length_drop]
      have e1 : (xs.take n ++ news).length = n + news.length := by rw [List.length_append, hnx]
      rw [List.take_of_length_le (by omega), show (xs.take n ++ news).length + (xs.length - (n + news.length)) - (xs.take n ++ news).length = xs.length - (n + news.length) by omega, hd]
  · have holds : ∀ j u, (xs.take n)[j]? = some u → w.cell? ((⟨g, 0, none⟩ : Addr).add j) = some u := fun j u hj => by
      obtain ⟨hjl, _⟩ := List.getElem?_eq_some_iff.1 hj
      rw [add_none0, Nat.zero_add, cell_of_heap hg, ← hj, ← htn, List.getElem?_take, if_pos (by omega)]
      simp
    have hrun := run_append_grow (P := P) w t ty e i z ht hi0 hz0 ⟨g, 0, none⟩ n cap (xs.take n) (by rw [hnx, hzs, Nat.mul_one]) holds ad news.length c news (by rw [hzs, Nat.mul_one]) hnews (by omega) (by omega) (growslice_fits (by omega) (by rw [hzb]; exact hb))
    have hge := grownCap_ge w (n + news.length) cap e
    have hcm : grownCap w (n + news.length) cap e ≤ maxLen := grownCap_le_maxLen w (n + news.length) cap e h63
    refine ⟨_, _, hrun, .inr ⟨by omega, _, hge, hcm, rfl, ⟨_, heap_alloc_new w.drew _, ?_, ?_, ?_⟩, ((Keeps.refl _ _).drew).alloc _, by simp⟩⟩
    · simp only [Array.size_append, List.size_toArray, size_zeroCells, hz1, hnx, Nat.mul_one]
      omega
    · rw [List.length_append, hnx]; exact hge
    · simp only [Array.toList_append]
      exact List.take_left' rfl

theorem run_app1_nil (t ty e : TypeId) {z : Value} {bytes : Nat} (ht : P.underlying t = some (.slice e)) (hi : (P.info? e).map (fun i => (i.zero, i.size, i.bytes)) = some (some z, 1, bytes)) (hz1 : z.cells.size = 1)
    (ad : Addr) (m c : Nat) (news : List Value) (hl : news.length = m) (hnews : ∀ j u, news[j]? = some u → w.cell? (ad.add j) = some u)
    (hm : 0 < m) (hb : m * bytes ≤ 140737488355328) (h63 : m ≤ maxLen) :
    ∃ cap' w', (Builtin.append_ #[t, t] ty #[.slice none 0 0, .slice (some ad) m c]).run P w = .ok (.slice (some ⟨w.heap.size, 0, none⟩) m cap') w' ∧ m ≤ cap' ∧ cap' ≤ maxLen ∧ Row1 w' e w.heap.size cap' news ∧ Old w w' ∧ w'.heap.size = w.heap.size + 1 := by
  obtain ⟨i, hi0, hz0, hzs, hzb⟩ := info_parts hi
  subst hl
  have hsm : news.length ≤ 9223372036854775807 := by simp only [maxLen] at h63; omega
  have hrun := run_append_nil (P := P) w t ty e i z ht hi0 hz0 ad news.length c news (by rw [hzs, Nat.mul_one]) hnews hm (by omega) (by rw [hzb]; omega)
  have hge := grownCap_ge w news.length 0 e
  have hcm : grownCap w news.length 0 e ≤ maxLen := grownCap_le_maxLen w news.length 0 e h63
  refine ⟨_, _, hrun, hge, hcm, ⟨_, heap_alloc_new w.drew _, ?_, hge, ?_⟩, ((Keeps.refl _ _).drew).alloc _, by simp⟩
  · simp only [Array.size_append, List.size_toArray, size_zeroCells, hz1, Nat.mul_one]
    omega
  · simp only [Array.toList_append]
    exact List.take_left' rfl

theorem wpList_app1 {ops : Array Oper} {rest : List Oper} {o : Oper} {a : Act} {Q : Exit → Act → World → Prop} (hgd : o.guard = none) (s x : Operand) (t e : TypeId)
    (ho : o.op = .call { callee := .builtin .append, args := #[s, x], argTypes := #[t, t] })
    {z : Value} {bytes : Nat} (ht : P.underlying t = some (.slice e)) (hi : (P.info? e).map (fun i => (i.zero, i.size, i.bytes)) = some (some z, 1, bytes)) (hz1 : z.cells.size = 1)
    {g cap n : Nat} {xs : List Value} (hs : a.eval s = .slice (some ⟨g, 0, none⟩) n cap) (hr : Row1 w e g cap xs) (hn : n ≤ xs.length) (ad : Addr) (m c : Nat) (news : List Value) (hx : a.eval x = .slice (some ad) m c) (hl : news.length = m) (hnews : ∀ j u, news[j]? = some u → w.cell? (ad.add j) = some u) (h1 : ∀ u ∈ news, u.oneCell' = true)
    (hm : 0 < m) (hb : (n + m) * bytes ≤ 140737488355328) (h63 : n + m ≤ maxLen)
    (h : ∀ v' w', App1 w e g cap n xs news v' w' → wpList P ops Q rest (a.put o.dst v') w') : wpList P ops Q (o :: rest) a w := by
  refine wpList_plain hgd fun K hK => ?_
  obtain ⟨v', w', hrun, h2⟩ := run_app1 (P := P) w t o.type e ht hi hz1 hr hn ad m c news hl hnews h1 hm hb h63
  unfold Oper.wp execOp
  simp only [ho, resolve, invoke, builtin, Sem.run_bind, Sem.run_pure, Result.andThen_ok, List.map_toArray, List.map_cons, List.map_nil, hs, hx, hrun]
  exact hK _ _ (h v' w' h2)

theorem wpList_app1_nil {ops : Array Oper} {rest : List Oper} {o : Oper} {a : Act} {Q : Exit → Act → World → Prop} (hgd : o.guard = none) (s x : Operand) (t e : TypeId)
    (ho : o.op = .call { callee := .builtin .append, args := #[s, x], argTypes := #[t, t] })
    {z : Value} {bytes : Nat} (ht : P.underlying t = some (.slice e)) (hi : (P.info? e).map (fun i => (i.zero, i.size, i.bytes)) = some (some z, 1, bytes)) (hz1 : z.cells.size = 1)
    (hs : a.eval s = .slice none 0 0) (ad : Addr) (m c : Nat) (news : List Value) (hx : a.eval x = .slice (some ad) m c) (hl : news.length = m) (hnews : ∀ j u, news[j]? = some u → w.cell? (ad.add j) = some u)
    (hm : 0 < m) (hb : m * bytes ≤ 140737488355328) (h63 : m ≤ maxLen)
    (h : ∀ cap' w', m ≤ cap' → cap' ≤ maxLen → Row1 w' e w.heap.size cap' news → Old w w' → w'.heap.size = w.heap.size + 1 → wpList P ops Q rest (a.put o.dst (.slice (some ⟨w.heap.size, 0, none⟩) m cap')) w') : wpList P ops Q (o :: rest) a w := by
  refine wpList_plain hgd fun K hK => ?_
  obtain ⟨cap', w', hrun, h2, h3, h4, h5, h6⟩ := run_app1_nil (P := P) w t o.type e ht hi hz1 ad m c news hl hnews hm hb h63
  unfold Oper.wp execOp
  simp only [ho, resolve, invoke, builtin, Sem.run_bind, Sem.run_pure, Result.andThen_ok, List.map_toArray, List.map_cons, List.map_nil, hs, hx, hrun]
  exact hK _ _ (h cap' w' h2 h3 h4 h5 h6)
end
end Go.Proofs.YtdpaaoeipconcaaDoor

