/- weftlaw12.size of any list, place; append of bytes to a list of the call's own. Conditions: the lists can be read. -/
import Derived.Test.YtdpaaoeipconcaaDoorJUtil
namespace Go.Proofs.YtdpaaoeipconcaaDoor
open Go.RowKit

/-- what size answers: -1: one is too long -/
def sizeI (recs : List (List UInt8)) : Int := if ∃ r ∈ recs, 65536 < r.length then -1 else ((16 + sizeF recs : Nat) : Int)
theorem sizeI_ok {recs : List (List UInt8)} (h : ∀ r ∈ recs, r.length ≤ 65536) : sizeI recs = ((16 + sizeF recs : Nat) : Int) := if_neg fun ⟨r, hr, hl⟩ => by have := h r hr; omega
theorem sizeI_neg {recs : List (List UInt8)} (h : ¬ ∀ r ∈ recs, r.length ≤ 65536) : sizeI recs = -1 := if_pos (by
  by_cases hx : ∃ r ∈ recs, 65536 < r.length
  · exact hx
  · exact absurd (fun r hr => by
      by_cases hl : r.length ≤ 65536
      · exact hl
      · exact absurd ⟨r, hr, by omega⟩ hx) h)

set_option maxHeartbeats 1000000 in
theorem size_gen (w : World) (S : Nat → Prop) (A : Option Addr) (c : Nat) (recs : List (List UInt8)) (hr : Rcs S w A recs) (hl : recs.length ≤ 6000000000000) :
    Calls Tryd.prog 27 #[.slice A recs.length c] w fun e w' => e = .returned (.int .i64 (sizeI recs)) ∧ w = w' := by
  have hstep := fun k (hk : k < recs.length) => sizeF_take recs hk
  have hle := fun k (hs : ∀ r ∈ recs.take k, r.length ≤ 65536) => sizeF_le (recs.take k) 65536 hs
  have hyes := @sizeI_ok recs
  have hno := @sizeI_neg recs
  have HM := hid (And.intro hstep (And.intro hle (And.intro hyes hno)))
  clear hstep hle hyes hno
  go_enter Tryd.func27, Tryd.ntmps27
  go_wp2
  go_loopw [3, 4] (fun nv i wr => ∃ k sz : Nat, i = .int .i64 k ∧ k ≤ recs.length ∧ nv = .int .i64 sz ∧ Hid (sz = 16 + sizeF (recs.take k)) ∧ Hid (∀ r ∈ recs.take k, r.length ≤ 65536) ∧ w = wr) (fun _ i _ => recs.length - (intOf i).toNat)
  case atStart => exact ⟨0, 16, rfl, Nat.zero_le _, rfl, hid (by simp [sizeF]), hid (by simp), rfl⟩
  case round =>
    obtain ⟨k, sz, rfl, hk, rfl, hsz, hsm, rfl⟩ := hrel
    by_cases hlt : k < recs.length
    · obtain ⟨b, o, A', c', rfl, hSb, h0, h1, h2⟩ := hr.at_ hlt
      have e1 := HM.out.1 k hlt
      have e3 := HM.out.2.1 k hsm.out
      have e4 : (recs.take k).length = k := by rw [List.length_take]; omega
      rw [e4] at e3
      have i1 : (0 : Int) ≤ (k : Int) := by omega
      have i2 : (k : Int) < (recs.length : Int) := by omega
      by_cases hfit : recs[k].length ≤ 65536
      · have j1 : ¬ (recs[k].length : Int) > 65536 := by omega
        obtain ⟨sz2, hs2⟩ : ∃ sz2, sz2 = sz + 12 + recs[k].length := ⟨_, rfl⟩
        have b1 : IntKind.i64.wrap ((sz : Int) + 12) = (sz : Int) + 12 := by have := hsz.out; rw [IntKind.wrap_i64]; omega
        have b2 : IntKind.i64.wrap ((sz : Int) + 12 + (recs[k].length : Int)) = (sz2 : Int) := by have := hsz.out; rw [IntKind.wrap_i64]; omega
        have HS := hid (show sz2 = 16 + sizeF (recs.take (k + 1)) by have := hsz.out; omega)
        have HA := hid (show ∀ r ∈ recs.take (k + 1), r.length ≤ 65536 by
          rw [List.take_succ_eq_append_getElem hlt]
          intro r hr
          rcases List.mem_append.1 hr with hr | hr
          · exact hsm.out r hr
          · obtain rfl : r = recs[k] := by simpa using hr
            exact hfit)
        clear e1 e3 e4 hs2 hfit
        generalize recs[k] = rec at *
        go_wp2
        exact ⟨⟨k + 1, sz2, by go_num, by omega, rfl, HS, HA, by first | rfl | trivial⟩, by simp [intOf]; omega⟩
      · have j1 : (recs[k].length : Int) > 65536 := by omega
        have HN := hid (HM.out.2.2.2 fun h => hfit (h _ (List.getElem_mem hlt)))
        clear e1 e3 e4 hfit
        generalize recs[k] = rec at *
        go_wp2
        go_ret
        exact ⟨by rw [HN.out]; rfl, rfl⟩
    · obtain rfl : k = recs.length := by omega
      have hs := hsz.out
      have hm := hsm.out
      rw [List.take_length] at hs hm
      have HS := hid (hs.trans rfl)
      have HY := hid (HM.out.2.2.1 hm)
      clear hs hm
      go_wp2
      go_ret
      exact ⟨by rw [HY.out, HS.out]; rfl, rfl⟩

set_option maxHeartbeats 1000000 in
theorem place_any (w : World) (S : Nat → Prop) (A : Option Addr) (c : Nat) (recs : List (List UInt8)) (hr : Rcs S w A recs) (hs : ∀ r ∈ recs, r.length ≤ 65536) (hl : recs.length ≤ 6000000000000) (hc : recs.length ≤ c) (i : Nat) (hi : i ≤ recs.length) :
    Calls Tryd.prog 31 #[.slice A recs.length c, .int .i64 (i : Int)] w fun e w' => e = .returned (.int .i64 ((16 + sizeF (recs.take i) : Nat) : Int)) ∧ w = w' := by
  have hsz : Calls Tryd.prog 27 #[.slice A i c] w fun e w' => e = .returned (.int .i64 ((16 + sizeF (recs.take i) : Nat) : Int)) ∧ w = w' := by
    have hrt : Rcs S w A (recs.take i) := ⟨by have := hr.1; simp; omega, fun hn => by
      have h0 : recs ≠ [] := fun e => hn (by rw [e]; simp)
      obtain ⟨b, o, e, hs, hc⟩ := hr.2 h0
      refine ⟨b, o, e, hs, fun j hj => ?_⟩
      have hj' : j < recs.length := by simp at hj; omega
      obtain ⟨A', c', h1, h2, h3⟩ := hc j hj'
      simp only [List.getElem_take]
      exact ⟨A', c', h1, h2, h3⟩⟩
    have h := size_any w S A c (recs.take i) hrt (fun r h => hs r (List.mem_of_mem_take h)) (by simp; omega)
    rw [List.length_take, Nat.min_eq_left hi] at h; exact h
  have i0 : (0 : Int) ≤ (i : Int) := by omega
  have i1 : i ≤ c := by omega
  generalize 16 + sizeF (recs.take i) = z at *
  clear hs
  go_enter Tryd.func31, Tryd.ntmps31
  go_wp2_with fail
  refine hsz.mono ?_
  rintro e w' ⟨rfl, rfl⟩
  clear hsz
  go_wp2
  go_ret
  exact ⟨rfl, rfl⟩

/-- Bytes behind bytes of the call's own. -/
theorem wpList_app5 {w : World} {ops : Array Oper} {rest : List Oper} {o : Oper} {a : Act} {Q : Exit → Act → World → Prop} (hgd : o.guard = none) (s x : Operand)
    (ho : o.op = .call { callee := .builtin .append, args := #[s, x], argTypes := #[22, 22] })
    {F S : Nat → Prop} {v : Value} {xs ys : List UInt8} (hs : a.eval s = v) (hown : OwnB F w v xs)
    (A : Option Addr) (m c : Nat) (hx : a.eval x = .slice A m c) (hm : m = ys.length) (hy : Bts S w A ys) (hb : xs.length + ys.length ≤ 140737488355328)
    (h : ∀ v' w', OwnB (fun k => F k ∨ w.heap.size ≤ k) w' v' (xs ++ ys) → Keeps (fun k => ¬ F k) w w' → wpList Tryd.prog ops Q rest (a.put o.dst v') w') : wpList Tryd.prog ops Q (o :: rest) a w := by
  subst hm
  refine wpList_append_ex _ hgd s x 22 5 ho Tryd.underlying22 info5 (by rfl) (by omega) hs hown.row A ys.length c (ys.map bv) hx (by simp) (fun h => (by obtain ⟨ad, e, _, h⟩ := hy.src (by simpa using h); exact ⟨ad, e, h⟩)) (bv_one ys) (by omega) (by unfold maxLen; omega) fun v' w' h1 h2 h3 => h v' w' ⟨by rw [List.length_append, List.map_append]; exact h1, fun k hk => ?_, by rw [List.length_append]; omega⟩ ?_
  · rcases h3 with e | e
    · rw [e] at hk; exact .inl (hown.foot k hk)
    · rw [e] at hk; injection hk with hk; right; omega
  · exact (Keeps.refl _ _).grown h2 fun k _ e hn => hn (hown.foot k e)
end Go.Proofs.YtdpaaoeipconcaaDoor
