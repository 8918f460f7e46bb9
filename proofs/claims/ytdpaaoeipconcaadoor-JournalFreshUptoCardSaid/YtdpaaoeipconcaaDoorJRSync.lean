/- weftref12.Log.Sync: all that is written lies down: syncJ. Conditions: the journal lies; not too many writes are waiting. -/
import Derived.Test.YtdpaaoeipconcaaDoorJRCrash
namespace Go.Proofs.YtdpaaoeipconcaaDoor
open Go.RowKit

theorem lay_len (M : Nat) (d : Dk) (x : Wr) (h1 : d.1.length ≤ M) (h2 : d.2.length ≤ M) (hx : x.at_ + x.bytes.length ≤ M) : (lay d x).1.length ≤ M ∧ (lay d x).2.length ≤ M := by
  unfold lay
  split
  · refine ⟨?_, h2⟩
    have := List.length_take_le x.at_ d.1
    simp; omega
  · refine ⟨h1, ?_⟩
    have := List.length_take_le x.at_ d.2
    simp; omega
theorem layAll_len (M : Nat) : ∀ (ws : List Wr) (d : Dk), d.1.length ≤ M → d.2.length ≤ M → (∀ x ∈ ws, x.at_ + x.bytes.length ≤ M) → (layAll ws d).1.length ≤ M ∧ (layAll ws d).2.length ≤ M
  | [], _, h1, h2, _ => ⟨h1, h2⟩
  | x :: ws, d, h1, h2, h => by
    obtain ⟨a, b⟩ := lay_len M d x h1 h2 (h x (List.mem_cons_self ..))
    exact layAll_len M ws (lay d x) a b fun y hy => h y (List.mem_cons_of_mem _ hy)
theorem fits_ne : ∀ (ws : List Wr) (d : Dk), Fits ws d → ∀ x ∈ ws, x.bytes ≠ []
  | [], _, _, x, hx => by simp at hx
  | y :: ws, d, ⟨_, h2, _, h4⟩, x, hx => by
    rcases List.mem_cons.1 hx with rfl | hx
    · exact h2
    · exact fits_ne ws _ h4 x hx

theorem good_sync {j : Jn} (h : Good j) : Good (syncJ j) := by
  obtain ⟨la, lb⟩ := layAll_len 1048576 j.ws (j.dA, j.dB) h.la h.lb h.wl
  refine ⟨h.cur, h.gen, h.nr, h.end_, trivial, la, lb, fun x hx => by simp [syncJ] at hx, h.endOk⟩
theorem crash_all {j : Jn} (h : Good j) : crashJ j (dirtyN j.ws : Nat) = ((syncJ j).dA, (syncJ j).dB) := by
  unfold crashJ
  rw [crashD_all j.ws (fits_ne _ _ h.fits)]
  rfl

set_option maxHeartbeats 2000000 in
theorem rsync_any (w : World) (F : Nat → Prop) (g : Nat) (vA vB vP : Value) (q : List (Wr × Value)) (j : Jn) (h : RNet F w g vA vB vP q j) (hw : j.ws.length ≤ 4000000000000) :
    Calls Tryd.prog 65 #[.pointer (some ⟨g, 0, none⟩)] w fun e w' => e = .returned (.tuple #[]) ∧ ∃ F' vA' vB', RNet F' w' g vA' vB' (.slice none 0 0) [] (syncJ j) ∧ (∀ k, F' k → F k ∨ w.heap.size ≤ k) ∧ Keeps (fun k => ¬ F k) w w' := by
  have hG := h.good
  have hd := dirtyN_le j.ws fun x hx => by have := hG.wl x hx; omega
  have hcr := rcrash_any w F g vA vB vP q j (dirtyN j.ws : Nat) h (by omega) (by omega) hw
  rw [crash_all hG] at hcr
  have HGS := hid (good_sync hG)
  have hdy := rdirty_any h hw
  clear hd hG
  go_enter Tryd.func65, Tryd.ntmps65
  go_wp2_with fail
  refine hdy.mono ?_
  rintro e w1 ⟨rfl, rfl⟩
  clear hdy
  go_wp2_with fail
  refine hcr.mono ?_
  rintro e w2 ⟨vA2, vB2, rfl, hA, hB, hAB, k2⟩
  clear hcr
  simp only at hA hB
  obtain ⟨A2, ca, rfl, _, _⟩ := hA.slice
  obtain ⟨B2, cb, rfl, _, _⟩ := hB.slice
  have h2 := h.keep (k2.old _)
  obtain ⟨A0, ca0, hvA, _, _⟩ := h2.a.slice
  obtain ⟨B0, cb0, hvB, _, _⟩ := h2.b.slice
  obtain ⟨P0, cp0, hvP, _, _⟩ := own_slice h2.p.row
  have hh := h2.head
  have c0 : w2.cell? ⟨g, 0, none⟩ = some vA := cell_of_heap hh
  have c1 : w2.cell? ⟨g, 1, none⟩ = some vB := cell_of_heap hh
  have c2 : w2.cell? ⟨g, 2, none⟩ = some vP := cell_of_heap hh
  have zf : ∀ i, w2.frozen? ⟨g, i, none⟩ = false := fun i => frozen_of_heap hh
  clear hvA hvB hvP
  have hbf : (((w2.setCell ⟨g, 0, none⟩ (.slice A2 (syncJ j).dA.length ca)).setCell ⟨g, 1, none⟩ (.slice B2 (syncJ j).dB.length cb)).setCell ⟨g, 2, none⟩ (.slice none 0 0)).heap[g]? =
      some (.cells #[.slice A2 (syncJ j).dA.length ca, .slice B2 (syncJ j).dB.length cb, .slice none 0 0, .int .i64 ((syncJ j).cur : Int), .int .i64 ((syncJ j).gen : Int), .int .i64 ((syncJ j).nr : Int), .int .i64 ((syncJ j).end_ : Int)] 91 (0, 0)) := by
    rw [heap_setCell (heap_setCell (heap_setCell hh _) _)]
    rfl
  have KS : Keeps (· ≠ g) w2 (((w2.setCell ⟨g, 0, none⟩ (.slice A2 (syncJ j).dA.length ca)).setCell ⟨g, 1, none⟩ (.slice B2 (syncJ j).dB.length cb)).setCell ⟨g, 2, none⟩ (.slice none 0 0)) :=
    (((Keeps.refl _ _).setCell (fun _ h => h rfl) _).setCell (fun _ h => h rfl) _).setCell (fun _ h => h rfl) _
  have nb : ∀ {v : Value} {n : Nat} {xs : List Value}, w2.ownsRow 0 5 1 v n xs → ∀ k, v.ownBlock = some k → k ≠ g := fun hx k hk e => own_ne_heap hx hh (by decide) (by rw [hk, e])
  have R : RNet (fun k => F k ∨ (w.heap.size ≤ k ∧ k < w2.heap.size)) (((w2.setCell ⟨g, 0, none⟩ (.slice A2 (syncJ j).dA.length ca)).setCell ⟨g, 1, none⟩ (.slice B2 (syncJ j).dB.length cb)).setCell ⟨g, 2, none⟩ (.slice none 0 0)) g (.slice A2 (syncJ j).dA.length ca) (.slice B2 (syncJ j).dB.length cb) (.slice none 0 0) [] (syncJ j) :=
    ⟨hbf, ⟨own_keeps hA.row KS (nb hA.row), fun k hk => .inr ⟨hA.foot k hk, own_lt hA.row hk⟩, hA.len⟩, ⟨own_keeps hB.row KS (nb hB.row), fun k hk => .inr ⟨hB.foot k hk, own_lt hB.row hk⟩, hB.len⟩, Pend.nil _ _, rfl, .inl h.fg, fun k hk => by
      have hs := KS.size
      rcases hk with hk | hk
      · have := h2.lt k hk; omega
      · omega, HGS.out⟩
  have KF : Keeps (fun k => ¬ F k) w (((w2.setCell ⟨g, 0, none⟩ (.slice A2 (syncJ j).dA.length ca)).setCell ⟨g, 1, none⟩ (.slice B2 (syncJ j).dB.length cb)).setCell ⟨g, 2, none⟩ (.slice none 0 0)) :=
    ((((k2.old _).setCell (fun _ hk => hk h.fg) _).setCell (fun _ hk => hk h.fg) _).setCell (fun _ hk => hk h.fg) _)
  have RR := hid (And.intro R KF)
  clear R KF nb KS hbf hA hB hAB h2 hh HGS
  go_wp2
  go_end0
  exact ⟨rfl, _, _, _, RR.out.1, fun k hk => hk.imp id fun h => h.1, RR.out.2⟩
end Go.Proofs.YtdpaaoeipconcaaDoor
