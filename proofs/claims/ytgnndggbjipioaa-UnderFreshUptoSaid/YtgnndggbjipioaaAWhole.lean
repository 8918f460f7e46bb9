/- weftlaw18.Book.whole: every list holds its mark. Conditions: the book lies. -/
import Derived.Test.YtgnndggbjipioaaAKeep3
namespace Go.Proofs.Ytgnndggbjipioaa
open Go.RowKit

/-- the place of the i-th list of packets -/
def headB (i : Nat) : Int := IntKind.u32.wrap ((i - i % 4 : Nat) : Int)
/-- The lists of packets come in fours, each with its place. -/
def HeadsOK (os : List (Value × Int)) : Prop := os.length % 4 = 0 ∧ ∀ i (h : i < os.length), os[i].2 = headB i

theorem own_cells {w : World} {b e s n : Nat} {v : Value} {xs : List Value} (h : w.ownsRow b e s v n xs) (hn : 0 < n) : ∃ g c, v = .slice (some ⟨g, 0, none⟩) n c ∧ n ≤ c ∧ c ≤ maxLen ∧ ∀ i, i < n * s → w.cell? ⟨g, i, none⟩ = xs[i]? := by
  obtain ⟨hl, h | ⟨g, cap, cur, hv, hb, hg, hnc, hcm, hcs, ht⟩⟩ := h
  · omega
  · refine ⟨g, cap, hv, hnc, hcm, fun i hi => ?_⟩
    rw [cell_of_heap hg, ← ht, List.getElem?_take, if_pos hi]
    simp

set_option maxRecDepth 10000 in
set_option maxHeartbeats 8000000 in
theorem whole_any (w : World) (K M : Nat → Prop) (p : Nat) (vL vM vO : Value) (es : List (Value × Nat)) (os : List (Value × Int)) (size : Nat) (h : BookM K M w p vL vM vO es os size) (hos : HeadsOK os) (hes : es.length ≤ 4000000000000) (hol : os.length ≤ 4000000000000) :
    Calls Try.prog 40 #[.pointer (some ⟨p, 0, none⟩)] w fun e w' => e = .returned (.bool true) ∧ Old w w' := by
  obtain ⟨AL, cL, hvL, _, _⟩ := own_slice h.l
  subst hvL
  obtain ⟨AM, cM, hvM, _, _⟩ := own_slice h.m
  subst hvM
  obtain ⟨AO, cO, hvO, _, _⟩ := own_slice h.o
  subst hvO
  have HB := hid h
  have HOS := hid hos.2
  have HML := hid h.ml
  have HC : Hid (∀ W, Old w W → W.cell? ⟨p, 0, none⟩ = some (.slice AL es.length cL) ∧ W.cell? ⟨p, 1, none⟩ = some (.slice AM es.length cM) ∧ W.cell? ⟨p, 3, none⟩ = some (.slice AO os.length cO)) := hid fun W hW => by
    have hh := hW.heap h.head trivial
    exact ⟨cell_of_heap hh, cell_of_heap hh, cell_of_heap hh⟩
  have HK := hid (Keeps.refl (fun _ => True) w)
  clear h hos
  go_enter Try.func40, Try.ntmps40
  go_wp2
  go_loopw [3, 4, 5] (fun i _ _ wr => ∃ k : Nat, i = .int .i64 k ∧ k ≤ es.length ∧ Hid (Old w wr)) (fun i _ _ _ => es.length - (intOf i).toNat)
  case atStart => exact ⟨0, rfl, Nat.zero_le _, HK⟩
  case round =>
    clear HK
    obtain ⟨k, rfl, hk, hold⟩ := hrel
    obtain ⟨c0, c1, c3⟩ := HC.out _ hold.out
    have i0 : (0 : Int) ≤ (k : Int) := by omega
    by_cases hlt : k < es.length
    · have i1 : (k : Int) < (es.length : Int) := by omega
      obtain ⟨gL, cL', hvL, _, _, hrowL⟩ := own_cells HB.out.l (by omega)
      injection hvL with hAL hnn hcc
      clear hnn
      subst hAL hcc
      obtain ⟨gM, cM', hvM, _, _, hrowM⟩ := own_cells HB.out.m (by omega)
      injection hvM with hAM hnn hcc
      clear hnn
      subst hAM hcc
      obtain ⟨A, n, c, hv, hnc, hR⟩ := HB.out.ents es[k] (List.getElem_mem hlt)
      have hcellL : w.cell? ⟨gL, k, none⟩ = some (.slice A n c) := by rw [hrowL k (by omega), List.getElem?_map, List.getElem?_eq_getElem hlt, ← hv]; rfl
      have hcellM : w.cell? ⟨gM, k, none⟩ = some (.int .i64 (es[k].2 : Int)) := by rw [hrowM k (by omega), List.getElem?_map, List.getElem?_eq_getElem hlt]; rfl
      have hm2 := HML.out es[k] (List.getElem_mem hlt)
      have hrl : n ≤ 281474976710656 := by have := hR.1; rwa [pats_length] at this
      have d0 := (hold.out.cell (p := ⟨gL, k, none⟩) (lt_of_cell hcellL) trivial).trans hcellL
      have HCM := hid hcellM
      have HR := hid hR
      clear hcellM hcellL hR hv hrowL hrowM
      generalize es[k].2 = m at *
      have HK := hid hold.out
      go_wp2
      go_loopw [5] (fun j wr2 => ∃ l : Nat, j = .int .i64 l ∧ l ≤ n ∧ Hid (Old w wr2)) (fun j _ => n - (intOf j).toNat)
      case atStart => exact ⟨0, rfl, Nat.zero_le _, HK⟩
      case round =>
        clear HK hold c0 c1 c3 d0
        obtain ⟨l, rfl, hl, hold2⟩ := hrel
        obtain ⟨c0, c1, c3⟩ := HC.out _ hold2.out
        have i2 : (0 : Int) ≤ (l : Int) := by omega
        by_cases hlt2 : l < n
        · have i3 : (l : Int) < (n : Int) := by omega
          obtain ⟨bA, oA, rfl, hSb, r0⟩ := (HR.out.keep (hold2.out.old _)).at_ (j := l) (by rw [pats_length]; exact hlt2)
          have hg : (pats m n)[l]'(by rw [pats_length]; exact hlt2) = patB m l := by
            have := pats_get m n hlt2
            rw [List.getElem?_eq_getElem (by rw [pats_length]; exact hlt2)] at this
            exact Option.some.inj this
          rw [hg] at r0
          clear hg
          have d1 := (hold2.out.cell (p := ⟨gM, k, none⟩) (lt_of_cell HCM.out) trivial).trans HCM.out
          have hq : ∀ n, Calls Try.prog 57 #[.int .i64 (m : Int), .int .i64 (l : Int)] (wr.drewN n) fun e w' => e = .returned (bv (patB m l)) ∧ ∃ k, w' = wr.drewN k := fun n => (pat_any (wr.drewN n) m l hm2 (by omega)).mono fun e w' ⟨h, hk⟩ => ⟨h, n, hk.symm⟩
          have HQ := hid hq
          clear hq
          generalize patB m l = x at *
          go_upto_region 8 with fail
          go_quiet (first | (go_at_call 57; with_reducible exact HQ.out _))
          have HK := hid (hold2.out.trans' ((Keeps.refl _ _).drewN nq))
          go_wp2
          exact ⟨⟨l + 1, by go_num, by omega, HK⟩, by simp [intOf]; omega⟩
        · obtain rfl : l = n := by omega
          have i3 : ¬ ((l : Nat) : Int) < (l : Int) := by omega
          have HK := hold2
          go_wp2
          exact ⟨⟨k + 1, by go_num, by omega, HK⟩, by simp [intOf]; omega⟩
    · have i1 : ¬ (k : Int) < (es.length : Int) := by omega
      have HK := hold
      go_wp2
      clear hold c0 c1 c3 i0 i1 hlt hk
      go_loopw [6, 7, 8] (fun i _ _ wr => ∃ k : Nat, i = .int .i64 k ∧ k ≤ os.length ∧ Hid (Old w wr)) (fun i _ _ _ => os.length - (intOf i).toNat)
      case atStart => exact ⟨0, rfl, Nat.zero_le _, HK⟩
      case round =>
        clear HK
        obtain ⟨k, rfl, hk, hold⟩ := hrel
        obtain ⟨c0, c1, c3⟩ := HC.out _ hold.out
        have i0 : (0 : Int) ≤ (k : Int) := by omega
        by_cases hlt : k < os.length
        · have i1 : (k : Int) < (os.length : Int) := by omega
          obtain ⟨gO, cO', hvO, _, _, hrow⟩ := own_cells HB.out.o (by omega)
          injection hvO with hAO hnn hcc
          clear hnn
          subst hAO hcc
          have hx : os[k].2 = headB k := HOS.out k hlt
          obtain ⟨A, n, c, hv, hnc, hR⟩ := HB.out.outs os[k] (List.getElem_mem hlt)
          have hcell : w.cell? ⟨gO, k, none⟩ = some (.slice A n c) := by rw [hrow k (by omega), List.getElem?_map, List.getElem?_eq_getElem hlt, ← hv]; rfl
          rw [hx] at hR
          have hrl : n ≤ 281474976710656 := by have := hR.1; rwa [List.length_replicate] at this
          have d0 := (hold.out.cell (p := ⟨gO, k, none⟩) (lt_of_cell hcell) trivial).trans hcell
          have HCL := hid hcell
          have HR := hid hR
          obtain ⟨r, hr⟩ : ∃ r, r = k % 4 := ⟨_, rfl⟩
          have e2 : (k : Int) % 4 = (r : Int) := by omega
          have e2' : (k : Int).tmod 4 = (r : Int) := by rw [Int.tmod_eq_emod_of_nonneg (by omega)]; exact e2
          obtain ⟨T, hT⟩ : ∃ T, T = k - r := ⟨_, rfl⟩
          have e3 : IntKind.i64.wrap ((k : Int) - (r : Int)) = (T : Int) := by rw [IntKind.wrap_i64]; omega
          have hbt : headB k = IntKind.u32.wrap (T : Int) := by unfold headB; rw [hT, hr]
          obtain ⟨x, hxx⟩ : ∃ x, x = headB k := ⟨_, rfl⟩
          have e4 : IntKind.u32.wrap (T : Int) = x := by rw [hxx, hbt]
          rw [← hxx] at HR
          clear hr hT hbt hx hv hR hrow hcell hxx
          have HK := hid hold.out
          go_wp2
          go_loopw [8] (fun j wr2 => ∃ l : Nat, j = .int .i64 l ∧ l ≤ n ∧ Hid (Old w wr2)) (fun j _ => n - (intOf j).toNat)
          case atStart => exact ⟨0, rfl, Nat.zero_le _, HK⟩
          case round =>
            clear HK hold c0 c1 c3 d0
            obtain ⟨l, rfl, hl, hold2⟩ := hrel
            obtain ⟨c0, c1, c3⟩ := HC.out _ hold2.out
            have d0 := (hold2.out.cell (p := ⟨gO, k, none⟩) (lt_of_cell HCL.out) trivial).trans HCL.out
            have i2 : (0 : Int) ≤ (l : Int) := by omega
            by_cases hlt2 : l < n
            · have i3 : (l : Int) < (n : Int) := by omega
              obtain ⟨bA, oA, A', c', rfl, hSb, r0, r1, _, _⟩ := (HR.out.keep (hold2.out.old _)).at_ (i := l) (by rw [List.length_replicate]; exact hlt2)
              rw [List.getElem_replicate] at r0 r1
              rw [show (x, ([] : List UInt8)).2.length = 0 from rfl] at r1
              rw [show (x, ([] : List UInt8)).1 = x from rfl] at r0
              have HK := hid hold2.out
              go_wp2
              exact ⟨⟨l + 1, by go_num, by omega, HK⟩, by simp [intOf]; omega⟩
            · obtain rfl : l = n := by omega
              have i3 : ¬ ((l : Nat) : Int) < (l : Int) := by omega
              have HK := hold2
              go_wp2
              exact ⟨⟨k + 1, by go_num, by omega, HK⟩, by simp [intOf]; omega⟩
        · have i1 : ¬ (k : Int) < (os.length : Int) := by omega
          have HK := hold
          go_wp2
          go_ret
          exact ⟨rfl, HK.out⟩
end Go.Proofs.Ytgnndggbjipioaa
