/- journal.Log.Rewrite: a new generation, or the error. Conditions: the journal lies, the records can be read and do not lie in it, the table lies, not too many writes are waiting. -/
import Derived.Test.YtdpaaoeipconcaaDoorJBegin
namespace Go.Proofs.YtdpaaoeipconcaaDoor
open Go.RowKit

theorem long_mem {recs : List (List UInt8)} {k : Nat} (hk : k < recs.length) (h : 65536 < recs[k].length) : ∃ r ∈ recs, 65536 < r.length := ⟨_, List.getElem_mem hk, h⟩
theorem all_short {recs : List (List UInt8)} (h : ∀ r ∈ recs.take recs.length, r.length ≤ 65536) : ¬ ∃ r ∈ recs, 65536 < r.length := fun ⟨r, hr, hl⟩ => by
  rw [List.take_length] at h
  have := h r hr
  omega
theorem short_step {recs : List (List UInt8)} {k : Nat} (hk : k < recs.length) (h : ∀ r ∈ recs.take k, r.length ≤ 65536) (hl : ¬ 65536 < recs[k].length) : ∀ r ∈ recs.take (k + 1), r.length ≤ 65536 := fun r hr => by
  rw [List.take_succ_eq_append_getElem hk] at hr
  rcases List.mem_append.1 hr with hr | hr
  · exact h r hr
  · obtain rfl : r = recs[k] := by simpa using hr
    omega

set_option maxHeartbeats 4000000 in
theorem rewrite_any (w : World) (F S : Nat → Prop) (g : Nat) (vA vB vP : Value) (q : List (Wr × Value)) (j : Jn) (A : Option Addr) (n c : Nat) (recs : List (List UInt8)) (h : LNet F w g vA vB vP q j) (hr : Rcs S w A recs) (hS : ∀ k, S k → ¬ F k) (hn : n = recs.length) (hT : Tab w)
    (hw : j.ws.length ≤ 3000000000000) :
    Calls Tryd.prog 41 #[.pointer (some ⟨g, 0, none⟩), .slice A n c] w (PostL F w g vA vB (rewriteJ j recs)) := by
  subst hn
  have hG := h.good
  have hcur := hG.cur
  have hgen := hG.gen
  have hal := hr.1
  have hpos := hT.pos
  have hmono := fun k => sizeF_mono recs k
  have hstep := fun k (hk : k < recs.length) => sizeF_take recs hk
  have HM := hid (And.intro hmono hstep)
  clear hmono hstep
  have c3 : w.cell? ⟨g, 3, none⟩ = some (.int .i64 (j.cur : Int)) := cell_of_heap h.head
  have c4 : w.cell? ⟨g, 4, none⟩ = some (.int .u32 (j.gen : Int)) := cell_of_heap h.head
  have zf : ∀ i, w.frozen? ⟨g, i, none⟩ = false := fun i => frozen_of_heap h.head
  go_enter Tryd.func41, Tryd.ntmps41
  go_wp2
  go_loopw [5, 6, 8, 11] (fun sv fv _ i wr => ∃ k sz : Nat, i = .int .i64 k ∧ k ≤ recs.length ∧ sv = .int .i64 sz ∧ Hid (∀ r ∈ recs.take k, r.length ≤ 65536) ∧ w = wr ∧
    ((fv = .bool false ∧ Hid (sz = 16 + sizeF (recs.take k)) ∧ sz ≤ 1048576) ∨ (fv = .bool true ∧ Hid (1048576 < 16 + sizeF (recs.take k))))) (fun _ _ _ i _ => recs.length - (intOf i).toNat)
  case atStart => exact ⟨0, 16, rfl, Nat.zero_le _, rfl, hid (by simp), rfl, .inl ⟨rfl, hid (by simp [sizeF]), by omega⟩⟩
  case round =>
    obtain ⟨k, sz, rfl, hk, rfl, hsh, rfl, hfull⟩ := hrel
    by_cases hlt : k < recs.length
    · obtain ⟨b, o, A', c', rfl, hSb, h0, h1, h2⟩ := hr.at_ hlt
      have i1 : (0 : Int) ≤ (k : Int) := by omega
      have i2 : (k : Int) < (recs.length : Int) := by omega
      have hst := HM.out.2 k hlt
      by_cases hlong : 65536 < recs[k].length
      · have hrw : rewriteJ j recs = (2, j) := by rw [rewriteJ, if_pos (long_mem hlt hlong)]
        have HRW := hid hrw
        clear hrw hst
        have j1 : (recs[k].length : Int) > 65536 := by omega
        clear hlong
        generalize recs[k] = rec at *
        rcases hfull with ⟨rfl, hsz, hsz2⟩ | ⟨rfl, hsz⟩ <;> (
          go_wp2
          go_ret
          rw [HRW.out]
          exact ⟨rfl, F, vP, q, h, fun _ hk => .inl hk, Keeps.refl _ _⟩)
      · have hsh2 := hid (short_step hlt hsh.out hlong)
        have j1 : ¬ (recs[k].length : Int) > 65536 := by omega
        rcases hfull with ⟨rfl, hsz, hsz2⟩ | ⟨rfl, hsz⟩
        · have b1 : IntKind.i64.wrap (12 + (recs[k].length : Int)) = 12 + (recs[k].length : Int) := by rw [IntKind.wrap_i64]; omega
          obtain ⟨sz2, hsz3⟩ : ∃ sz2, sz2 = sz + (12 + recs[k].length) := ⟨_, rfl⟩
          have b2 : IntKind.i64.wrap ((sz : Int) + (12 + (recs[k].length : Int))) = (sz2 : Int) := by rw [IntKind.wrap_i64]; omega
          have hs2 : sz2 = 16 + sizeF (recs.take (k + 1)) := by have := hsz.out; omega
          have HS2 := hid hs2
          clear hst hsz3 hs2 hlong
          generalize recs[k] = rec at *
          by_cases hbig : 1048576 < sz2
          · have j2 : (sz2 : Int) > 1048576 := by omega
            go_wp2
            exact ⟨⟨k + 1, sz2, by go_num, by omega, rfl, hsh2, by first | rfl | trivial, .inr ⟨rfl, hid (by have := HS2.out; omega)⟩⟩, by simp [intOf]; omega⟩
          · have j2 : ¬ (sz2 : Int) > 1048576 := by omega
            go_wp2
            exact ⟨⟨k + 1, sz2, by go_num, by omega, rfl, hsh2, by first | rfl | trivial, .inl ⟨rfl, HS2, by omega⟩⟩, by simp [intOf]; omega⟩
        · have hs2 : 1048576 < 16 + sizeF (recs.take (k + 1)) := by have := hsz.out; omega
          have HS2 := hid hs2
          clear hst hs2 hlong
          generalize recs[k] = rec at *
          go_wp2
          exact ⟨⟨k + 1, sz, by go_num, by omega, rfl, hsh2, by first | rfl | trivial, .inr ⟨rfl, HS2⟩⟩, by simp [intOf]; omega⟩
    · obtain rfl : k = recs.length := by omega
      have hns := all_short hsh.out
      rcases hfull with ⟨rfl, hsz, hsz2⟩ | ⟨rfl, hsz⟩
      · have hsz3 := hsz.out
        rw [List.take_length] at hsz3
        have hrw := rewriteJ_ok j recs hns (by omega)
        have hgo := good_rewrite (recs := recs) hG (by omega)
        obtain ⟨g', hg'⟩ : ∃ g', g' = (j.gen + 1) % 4294967296 := ⟨_, rfl⟩
        rw [← hg'] at hrw hgo
        have bg : IntKind.u32.wrap ((j.gen : Int) + 1) = (g' : Int) := by rw [IntKind.wrap_u32]; omega
        obtain ⟨cu, hcu⟩ : ∃ cu, cu = 1 - j.cur := ⟨_, rfl⟩
        rw [← hcu] at hrw hgo
        have bc : IntKind.i64.wrap (1 - (j.cur : Int)) = (cu : Int) := by rw [IntKind.wrap_i64]; omega
        obtain ⟨W1, hW1⟩ : ∃ W, W = w.setCell ⟨g, 3, none⟩ (.int .i64 (cu : Int)) := ⟨_, rfl⟩
        have k1 : Keeps (· ≠ g) w W1 := by rw [hW1]; exact (Keeps.refl _ _).setCell (fun _ h => h rfl) _
        have hraw := h.raw.sets (j' := { j with cur := cu }) k1 (by rw [hW1, heap_setCell h.head]; rfl) rfl rfl rfl
        have d4 : W1.cell? ⟨g, 4, none⟩ = some (.int .u32 (j.gen : Int)) := cell_of_heap hraw.head
        have hgF := h.fg
        have hS1 : ∀ k, S k → k ≠ g := fun k hk e => hS k hk (by rw [e]; exact hgF)
        have hg0 : g ≠ 0 := fun e => by
          have hh := h.head
          rw [e] at hh
          have h15 := hT 15 (by omega)
          rw [cell_of_heap hh] at h15
          simp at h15
        have hbg := begin_any W1 F S g vA vB vP q { j with cur := cu } A recs.length c g' recs hraw (hr.keep (k1.mono fun k _ hk => hS1 k hk)) rfl (hT.keep k1 (Ne.symm hg0)) (by omega) (by omega) (fun r hr => Nat.le_of_not_lt fun hl => hns ⟨r, hr, hl⟩) hw
        have HRW := hid (And.intro hrw hgo)
        have HG := hid hg'
        have HCU := hid hcu
        clear hrw hgo hsz3 hns hg' hcu
        go_wp2_with fail
        rw [← hW1]
        refine hbg.mono ?_
        rintro e w2 ⟨rfl, F', vP', q', hL, hF', k2⟩
        clear hbg hW1
        go_wp2
        go_ret
        rw [HRW.out.1]
        refine ⟨rfl, F', vP', q', hL.net HRW.out.2, fun k hk => ?_, (k1.mono fun k _ hk e => hk (by rw [e]; exact hgF)).trans' k2⟩
        rcases hF' k hk with h | h
        · exact .inl h
        · have := k1.size; right; omega
      · have hsz3 := hsz.out
        rw [List.take_length] at hsz3
        have hrw : rewriteJ j recs = (4, j) := by rw [rewriteJ, if_neg hns, if_pos hsz3]
        have HRW := hid hrw
        clear hrw hsz3 hns
        go_wp2
        go_ret
        rw [HRW.out]
        exact ⟨rfl, F, vP, q, h, fun _ hk => .inl hk, Keeps.refl _ _⟩
end Go.Proofs.YtdpaaoeipconcaaDoor
