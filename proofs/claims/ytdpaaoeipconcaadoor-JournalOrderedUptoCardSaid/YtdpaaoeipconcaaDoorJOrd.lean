/- weftlaw12.JournalOrdered: frames that changed places, or one that is missing ahead of others, are told. Conditions: the list can be read, the table lies. -/
import Derived.Test.YtdpaaoeipconcaaDoorJOrdP
import Derived.Test.YtdpaaoeipconcaaDoorJUtil2
import Derived.Test.YtdpaaoeipconcaaDoorJPlays
namespace Go.Proofs.YtdpaaoeipconcaaDoor
open Go.RowKit

/-- ahead of a round -/
def InOrd (w : World) (lo : Nat) (recs : List (List UInt8)) (g k : Nat) (wr : World) : Prop :=
  ∃ (j : Jn) (F : Nat → Prop) (vA vB vP : Value) (q : List (Wr × Value)), OrdJ recs k j ∧ LNet F wr g vA vB vP q j ∧ (∀ k, F k → lo ≤ k) ∧ Old w wr

/-- Open of a disk whose second area is empty. -/
theorem open_val {w : World} {F : Nat → Prop} {v : Value} {xs : List UInt8} (h : OwnB F w v xs) (hT : Tab w) : Calls Tryd.prog 32 #[.agg #[v, .slice none 0 0]] w (PostLOpen w (openJ (xs, []))) := by
  obtain ⟨A, c, rfl, hc, _⟩ := h.slice
  exact lopen_any w F A none xs.length 0 c 0 xs [] h.bts (Bts.nil _ _ _) rfl rfl hc (Nat.le_refl _) hT

set_option maxRecDepth 10000 in
set_option maxHeartbeats 2000000 in
/-- Where the guard holds. -/
theorem ordered_no (w : World) (S : Nat → Prop) (A : Option Addr) (c : Nat) (recs : List (List UInt8)) (i j : Int) (hr : Rcs S w A recs) (hl : recs.length ≤ 6000000000000) (hT : Tab w)
    (h : i < 0 ∨ j ≤ i ∨ (recs.length : Int) ≤ j ∨ sizeI recs < 0 ∨ 100000 < sizeI recs) :
    Calls Tryd.prog 4 #[.slice A recs.length c, .int .i64 i, .int .i64 j] w fun e w' => e = .returned (.bool true) ∧ Old w w' := by
  have hfi := hid (first_any w hT)
  have hfi2 := hid (fun W (hW : Old w W) => first_any W (hT.keep (hW.old (fun _ => True)) trivial))
  have hsz := hid (fun W (hW : Old w W) => size_gen W S A c recs (hr.keep (hW.old _)) hl)
  generalize sizeI recs = z at *
  by_cases h1 : i < 0
  · go_enter Tryd.func4, Tryd.ntmps4
    go_wp2_with fail
    refine hfi.out.mono ?_
    rintro e w1 ⟨rfl, k1⟩
    go_wp2_with fail
    refine (hfi2.out w1 k1).mono ?_
    rintro e w2 ⟨rfl, k2⟩
    go_wp2
    go_ret
    exact ⟨rfl, k1.trans' k2⟩
  by_cases h2 : j ≤ i
  · go_enter Tryd.func4, Tryd.ntmps4
    go_wp2_with fail
    refine hfi.out.mono ?_
    rintro e w1 ⟨rfl, k1⟩
    go_wp2_with fail
    refine (hfi2.out w1 k1).mono ?_
    rintro e w2 ⟨rfl, k2⟩
    go_wp2
    go_ret
    exact ⟨rfl, k1.trans' k2⟩
  by_cases h3 : (recs.length : Int) ≤ j
  · go_enter Tryd.func4, Tryd.ntmps4
    go_wp2_with fail
    refine hfi.out.mono ?_
    rintro e w1 ⟨rfl, k1⟩
    go_wp2_with fail
    refine (hfi2.out w1 k1).mono ?_
    rintro e w2 ⟨rfl, k2⟩
    go_wp2
    go_ret
    exact ⟨rfl, k1.trans' k2⟩
  have h3' : ¬ j ≥ (recs.length : Int) := by omega
  by_cases h4 : z < 0
  · go_enter Tryd.func4, Tryd.ntmps4
    go_wp2_with fail
    refine hfi.out.mono ?_
    rintro e w1 ⟨rfl, k1⟩
    go_wp2_with fail
    refine (hsz.out w1 k1).mono ?_
    rintro e w3 ⟨rfl, rfl⟩
    go_wp2_with fail
    refine (hfi2.out w1 k1).mono ?_
    rintro e w2 ⟨rfl, k2⟩
    go_wp2
    go_ret
    exact ⟨rfl, k1.trans' k2⟩
  · have h5 : z > 100000 := by omega
    have HH := hid h
    clear h
    go_enter Tryd.func4, Tryd.ntmps4
    go_wp2_with fail
    refine hfi.out.mono ?_
    rintro e w1 ⟨rfl, k1⟩
    go_wp2_with fail
    refine (hsz.out w1 k1).mono ?_
    rintro e w3 ⟨rfl, rfl⟩
    go_wp2_with fail
    refine (hsz.out w1 k1).mono ?_
    rintro e w3 ⟨rfl, rfl⟩
    go_wp2_with fail
    refine (hfi2.out w1 k1).mono ?_
    rintro e w2 ⟨rfl, k2⟩
    go_wp2
    go_ret
    exact ⟨rfl, k1.trans' k2⟩

set_option maxRecDepth 10000 in
set_option maxHeartbeats 8000000 in
theorem ordered_yes (w : World) (S : Nat → Prop) (A : Option Addr) (c : Nat) (recs : List (List UInt8)) (i j : Nat) (hr : Rcs S w A recs) (hc : recs.length ≤ c) (hT : Tab w)
    (hij : i < j) (hj : j < recs.length) (hsm : ∀ r ∈ recs, r.length ≤ 65536) (hsz : 16 + sizeF recs ≤ 100000) :
    Calls Tryd.prog 4 #[.slice A recs.length c, .int .i64 (i : Int), .int .i64 (j : Int)] w fun e w' => e = .returned (.bool true) ∧ Old w w' := by
  have hn := sizeF_num recs
  have hpos := hT.pos
  have hsg : ∀ W, Old w W → Calls Tryd.prog 27 #[.slice A recs.length c] W fun e w' => e = .returned (.int .i64 ((16 + sizeF recs : Nat) : Int)) ∧ W = w' := fun W hW => size_any W S A c recs (hr.keep (hW.old _)) hsm (by omega)
  have hpl : ∀ W, Old w W → ∀ m, m ≤ recs.length → Calls Tryd.prog 31 #[.slice A recs.length c, .int .i64 (m : Int)] W fun e w' => e = .returned (.int .i64 ((16 + sizeF (recs.take m) : Nat) : Int)) ∧ W = w' := fun W hW m hm => place_any W S A c recs (hr.keep (hW.old _)) hsm (by omega) hc m hm
  have hal := areaB_length 1 [] recs
  rw [List.nil_append] at hal
  obtain ⟨sz, hsz'⟩ : ∃ sz, sz = 16 + sizeF recs := ⟨_, rfl⟩
  rw [← hsz'] at hsg
  have hs5 : sz ≤ 100000 := by omega
  have hi : i < recs.length := by omega
  have p1 := sizeF_take recs hi
  have p2 := sizeF_take recs hj
  have p3 := sizeF_mono recs (j + 1)
  have p4 : sizeF (recs.take (i + 1)) ≤ sizeF (recs.take j) := by
    have := sizeF_mono (recs.take j) (i + 1)
    rw [List.take_take, Nat.min_eq_left (by omega)] at this
    exact this
  obtain ⟨ri, hri⟩ : ∃ ri, ri = recs[i] := ⟨_, rfl⟩
  obtain ⟨rj, hrj⟩ : ∃ rj, rj = recs[j] := ⟨_, rfl⟩
  have qi : recs[i]? = some ri := by rw [hri]; exact List.getElem?_eq_getElem hi
  have qj : recs[j]? = some rj := by rw [hrj]; exact List.getElem?_eq_getElem hj
  obtain ⟨bi, oi, Ai, ci, hAi, hSi, hci, hcl, _⟩ := hr.at_ hi
  obtain ⟨bj, oj, Aj, cj, hAj, hSj, hcj, hcl', _⟩ := hr.at_ hj
  obtain ⟨bb, oo, hA⟩ : ∃ bb oo, A = some ⟨bb, oo, none⟩ := ⟨_, _, hAi⟩
  rw [hA] at hAi hAj
  injection hAi with hAi
  injection hAi with e1 e2 _
  injection hAj with hAj
  injection hAj with e3 e4 _
  subst e1 e2 e3 e4
  rw [← hri] at p1 hci
  rw [← hrj] at p2 hcj
  clear hcl hcl' hri hrj
  subst hA
  obtain ⟨pi, hpi⟩ : ∃ pi, pi = 16 + sizeF (recs.take i) := ⟨_, rfl⟩
  obtain ⟨pj, hpj⟩ : ∃ pj, pj = 16 + sizeF (recs.take j) := ⟨_, rfl⟩
  obtain ⟨ei, hei⟩ : ∃ ei, ei = pi + 12 + ri.length := ⟨_, rfl⟩
  obtain ⟨ej, hej⟩ : ∃ ej, ej = pj + 12 + rj.length := ⟨_, rfl⟩
  have hpli := fun W hW => hpl W hW i (by omega)
  have hplj := fun W hW => hpl W hW j (by omega)
  rw [← hpi] at hpli
  rw [← hpj] at hplj
  have g1 : pi < ei := by omega
  have g2 : ei ≤ pj := by omega
  have g3 : pj < ej := by omega
  have g4 : ej ≤ sz := by omega
  have HPI := hid hpi
  have HPJ := hid hpj
  have HEI := hid hei
  have HEJ := hid hej
  have HSZ := hid hsz'
  have HSG := hid hsg
  have HPLI := hid hpli
  have HPLJ := hid hplj
  have HQ := hid (And.intro qi qj)
  have w1 : IntKind.i64.wrap ((pi : Int) + 12) = (pi : Int) + 12 := by rw [IntKind.wrap_i64]; omega
  have w2 : IntKind.i64.wrap ((pi : Int) + 12 + (ri.length : Int)) = (ei : Int) := by rw [IntKind.wrap_i64]; omega
  have w3 : IntKind.i64.wrap ((pj : Int) + 12) = (pj : Int) + 12 := by rw [IntKind.wrap_i64]; omega
  have w4 : IntKind.i64.wrap ((pj : Int) + 12 + (rj.length : Int)) = (ej : Int) := by rw [IntKind.wrap_i64]; omega
  have HW := hid (And.intro w1 (And.intro w2 (And.intro w3 w4)))
  clear w1 w2 w3 w4 hpi hpj hei hej hsz' hsg hpli hplj hpl p1 p2 p3 p4 qi qj
  have HAL := hid hal
  clear hal
  have t1 : ¬ j ≤ i := by omega
  have t2 : ¬ recs.length ≤ j := by omega
  have t3 : ¬ (sz : Int) > 100000 := by omega
  have t3' : ¬ 100000 < sz := by omega
  go_enter Tryd.func4, Tryd.ntmps4
  go_wp2_with fail
  refine (first_any w hT).mono ?_
  rintro e w1 ⟨rfl, k1⟩
  go_wp2_with fail
  refine (HSG.out w1 k1).mono ?_
  rintro e w1' ⟨rfl, rfl⟩
  go_wp2_with fail
  refine (HSG.out w1 k1).mono ?_
  rintro e w1' ⟨rfl, rfl⟩
  have hT1 := hT.keep (k1.old (fun _ => True)) trivial
  go_wp2_with fail
  refine (begun_any w1 hT1 exJ0 ex_open).mono ?_
  rintro e w2 ⟨F, g, tt, vA, vB, vP, q, rfl, hL, hF, k2⟩
  have z1 := k1.size
  have z2 := k2.size
  have K2 := k1.trans' k2
  have HS := hid (show InOrd w w.heap.size recs g 0 w2 from ⟨exJ0, F, vA, vB, vP, q, ord_begin recs, hL, fun k h => by have := hF k h; omega, K2⟩)
  clear hL hF
  go_wp2
  go_loopw [9] (fun i wr => ∃ k : Nat, i = .int .i64 k ∧ k ≤ recs.length ∧ Hid (InOrd w w.heap.size recs g k wr)) (fun i _ => recs.length - (intOf i).toNat)
  case atStart => exact ⟨0, rfl, Nat.zero_le _, HS⟩
  case round =>
    clear HS
    obtain ⟨k, rfl, hk, hin⟩ := hrel
    obtain ⟨j1, F6, vA6, vB6, vP6, q6, hC, hL6, hF6, hold⟩ := hin.out
    have hws := hC.2.2.2.2.2
    have zr := hold.size
    by_cases hlt : k < recs.length
    · obtain ⟨b, o, A', c', hA', hSb, h0, h1, h2⟩ := (hr.keep (hold.old _)).at_ hlt
      injection hA' with hA'
      injection hA' with e1 e2 _
      subst e1 e2
      obtain ⟨j', hap, hC'⟩ := ord_step hsm hsz hlt hC
      have HC := hid hC'
      have i1 : (0 : Int) ≤ (k : Int) := by omega
      have i2 : (k : Int) < (recs.length : Int) := by omega
      have ha7 := append_any wr F6 S g vA6 vB6 vP6 q6 j1 A' recs[k].length c' recs[k] hL6 h2 rfl (hT.keep (hold.old (fun _ => True)) trivial) (by omega)
      rw [hap] at ha7
      clear hC' hap hC hws
      generalize recs[k] = rec at *
      go_wp2_with fail
      refine ha7.mono ?_
      rintro e w7 ⟨rfl, F7, vP7, q7, hL7, hF7, k7⟩
      clear ha7
      simp only at hL7
      have HR := hid (show InOrd w w.heap.size recs g (k + 1) w7 from ⟨j', F7, vA6, vB6, vP7, q7, HC.out, hL7, fun k' h => by
        rcases hF7 k' h with g' | g'
        · exact hF6 k' g'
        · omega, hold.trans k7 fun k' hk' _ h6 => by have := hF6 k' h6; omega⟩)
      clear hL7 hL6 hin
      go_wp2
      exact ⟨⟨k + 1, by go_num, by omega, HR⟩, by simp [intOf]; omega⟩
    · obtain rfl : k = recs.length := by omega
      have i2 : ¬ ((recs.length : Nat) : Int) < (recs.length : Int) := by omega
      have hsy := lsync_any wr F6 g vA6 vB6 vP6 q6 j1 hL6 (by omega)
      have hcs := ord_sync hC
      go_wp2_with fail
      refine hsy.mono ?_
      rintro e w7 ⟨rfl, F7, vA7, vB7, hL7, hF7, k7⟩
      clear hsy
      have z7 := k7.size
      have K7 : Old w w7 := hold.trans k7 fun k' hk' _ h6 => by have := hF6 k' h6; omega
      have hcr := lcrash_any w7 F7 g vA7 vB7 _ [] (syncJ j1) 0 hL7 (by omega) (by omega) (by simp [syncJ]) (crashJ_len hL7.good 0)
      rw [hcs] at hcr
      go_wp2_with fail
      refine hcr.mono ?_
      rintro e w10 ⟨vA8, vB8, rfl, hA8, hB8, _, k10⟩
      clear hcr
      simp only at hA8 hB8
      obtain ⟨A8, c8, rfl, hc8, _⟩ := hA8.slice
      have hXl : (areaB 1 [] recs).length = sz := HAL.out.trans HSZ.out.symm
      have z10 := k10.size
      have K10 := K7.trans' k10
      clear hL6 hL7 hC hin hcs hws
      have hX0 := hA8.bts
      have ht := fun T => ord_turned hsm hsz hij hj HQ.out.2 HPI.out HPJ.out HEJ.out T
      have hg := ord_gone hsm hsz hij hj HQ.out.1 HPI.out HEI.out
      have ho := ord_open hsm hsz
      generalize areaB 1 [] recs = X at *
      subst hXl
      have HX := hid hX0
      have hfd : ∀ W : World, (Instr.field 24 (.agg #[.slice A8 X.length c8, vB8]) 0).run Tryd.prog W = .ok (.slice A8 X.length c8) W := fun _ => by kernel_rfl
      clear hA8 hB8 hX0
      go_wp2_with fail
      refine (HSG.out w10 K10).mono ?_
      rintro e w11 ⟨rfl, rfl⟩
      go_wp2_with fail
      refine (HPLI.out w10 K10).mono ?_
      rintro e w11 ⟨rfl, rfl⟩
      go_wp2_with fail
      refine (HPLJ.out w10 K10).mono ?_
      rintro e w11 ⟨rfl, rfl⟩
      have x1 : w10.cell? ⟨bb, oo + i, none⟩ = some (.slice Ai ri.length ci) := (K10.cell (lt_of_cell hci) trivial).trans hci
      have x2 : w10.cell? ⟨bb, oo + j, none⟩ = some (.slice Aj rj.length cj) := (K10.cell (lt_of_cell hcj) trivial).trans hcj
      have i1 : (0 : Int) ≤ (i : Int) := by omega
      have i2' : (i : Int) < (recs.length : Int) := by omega
      have i3 : (0 : Int) ≤ (j : Int) := by omega
      have i4 : (j : Int) < (recs.length : Int) := by omega
      obtain ⟨w1, w2, w3, w4⟩ := HW.out
      go_upto_region 14 with fail
      go_quiet (fail)
      clear w1 w2 w3 w4 x1 x2 i1 i2' i3 i4 hci hcj
      have K11 : Old w10 (w10.drewN nq) := (Keeps.refl _ _).drewN _
      generalize w10.drewN nq = w11 at *
      have KK := K10.trans' K11
      have HX11 := HX.out.keep (K11.old _)
      obtain ⟨b8, o8, rfl⟩ := HX11.addr (by omega)
      have hX : Bts (fun k => k < w11.heap.size) w11 (some ⟨b8, o8, none⟩) X := HX11.mono fun k hk _ => hk
      have hpart : ∀ a n, a + n ≤ X.length → Bts (fun k => k < w11.heap.size) w11 (some ⟨b8, o8 + a, none⟩) ((X.drop a).take n) := fun a n h => hX.part h fun _ b o e => by
        injection e with e; injection e with e1 e2 _; rw [← e1, ← e2]
      have P1 := hid (hX.take (n := pi) (by omega))
      have P2 := hid (hpart pj (ej - pj) (by omega))
      have P3 := hid (hpart ei (pj - ei) (by omega))
      have P4 := hid (hpart pi (ei - pi) (by omega))
      have P6 := hid (hpart ei (X.length - ei) (by omega))
      have P5 : Hid (∀ Y, (0 < X.length - ej → Y = some ⟨b8, o8 + ej, none⟩) → Bts (fun k => k < w11.heap.size) w11 Y ((X.drop ej).take (X.length - ej))) := hid fun Y hY => hX.part (by omega) fun h b o e => by
        injection e with e; injection e with e1 e2 _; rw [← e1, ← e2]; exact hY h
      have L1 : (X.take pi).length = pi := by rw [List.length_take]; omega
      have L2 : ((X.drop pj).take (ej - pj)).length = ej - pj := by rw [List.length_take, List.length_drop]; omega
      have L3 : ((X.drop ei).take (pj - ei)).length = pj - ei := by rw [List.length_take, List.length_drop]; omega
      have L4 : ((X.drop pi).take (ei - pi)).length = ei - pi := by rw [List.length_take, List.length_drop]; omega
      have L5 : ((X.drop ej).take (X.length - ej)).length = X.length - ej := by rw [List.length_take, List.length_drop]; omega
      have L6 : ((X.drop ei).take (X.length - ei)).length = X.length - ei := by rw [List.length_take, List.length_drop]; omega
      have e5 : (X.drop ej).take (X.length - ej) = X.drop ej := List.take_of_length_le (by rw [List.length_drop]; exact Nat.le_refl _)
      have e6 : (X.drop ei).take (X.length - ei) = X.drop ei := List.take_of_length_le (by rw [List.length_drop]; exact Nat.le_refl _)
      have HT := hid (ht ((X.drop ei).take (pj - ei) ++ ((X.drop pi).take (ei - pi) ++ (X.drop ej).take (X.length - ej))))
      rw [← e6] at hg
      have HG := hid hg
      have HO := hid ho
      clear ht hg ho e5 e6 HX11 hpart
      generalize X.take pi = Y1 at *
      generalize (X.drop pj).take (ej - pj) = Y2 at *
      generalize (X.drop ei).take (pj - ei) = Y3 at *
      generalize (X.drop pi).take (ei - pi) = Y4 at *
      generalize (X.drop ej).take (X.length - ej) = Y5 at *
      generalize (X.drop ei).take (X.length - ei) = Y6 at *
      have HL := hid (And.intro L1 (And.intro L2 (And.intro L3 (And.intro L4 (And.intro L5 L6)))))
      clear L1 L2 L3 L4 L5 L6
      have n1 : ¬ c8 = pj := by omega
      have n2 : ¬ c8 = ei := by omega
      have n3 : ¬ c8 = pi := by omega
      have n4 : pi ≤ c8 := by omega
      have n5 : ej ≤ c8 := by omega
      have n6 : pj ≤ c8 := by omega
      have n7 : ei ≤ c8 := by omega
      have n8 : pi ≤ ei := by omega
      have n9 : pj ≤ ej := by omega
      have n10 : ej ≤ X.length := by omega
      have n11 : ei ≤ X.length := by omega
      have m1 : (0 : Int) ≤ (pi : Int) := by omega
      have m2 : (0 : Int) ≤ (pj : Int) := by omega
      have m3 : (0 : Int) ≤ (ei : Int) := by omega
      have m4 : (0 : Int) ≤ (ej : Int) := by omega
      have z11 := KK.size
      go_upto_region 16 with fail
      go_upto_region 17 with (at_builtin; refine wpList_app5 (F := fun k => w11.heap.size ≤ k) (by rfl) _ _ (by rfl) (by rfl) (OwnB.nil _ _) (some ⟨b8, o8, none⟩) pi c8 (by rfl) HL.out.1.symm P1.out (by have := HL.out.1; simp only [List.length_nil]; omega) ?_; intro v1 x1 hv1 kx1)
      have G1 : Old w11 x1 := kx1.mono fun k hk _ => by show ¬ w11.heap.size ≤ k; omega
      have hw1 : OwnB (fun k => w11.heap.size ≤ k) x1 v1 _ := hv1.mono fun k _ h => by rcases h with h | h <;> exact h
      clear hv1 kx1
      go_upto_region 18 with (at_builtin; refine wpList_app5 (F := fun k => w11.heap.size ≤ k) (by rfl) _ _ (by rfl) (by rfl) hw1 (some ⟨b8, o8 + pj, none⟩) (ej - pj) (c8 - pj) (by rfl) HL.out.2.1.symm (P2.out.keep (G1.old _)) (by simp only [List.length_append, List.length_nil, HL.out.1, HL.out.2.1]; omega) ?_; intro v2 x2 hv2 kx2)
      have G2 : Old w11 x2 := G1.trans kx2 fun k hk _ => by show ¬ w11.heap.size ≤ k; omega
      have hw2 : OwnB (fun k => w11.heap.size ≤ k) x2 v2 _ := hv2.mono fun k _ h => by rcases h with h | h <;> (have := G1.size; omega)
      clear hv2 kx2
      go_upto_region 19 with (at_builtin; refine wpList_app5 (F := fun k => w11.heap.size ≤ k) (by rfl) _ _ (by rfl) (by rfl) hw2 (some ⟨b8, o8 + ei, none⟩) (pj - ei) (c8 - ei) (by rfl) HL.out.2.2.1.symm (P3.out.keep (G2.old _)) (by simp only [List.length_append, List.length_nil, HL.out.1, HL.out.2.1, HL.out.2.2.1]; omega) ?_; intro v3 x3 hv3 kx3)
      have G3 : Old w11 x3 := G2.trans kx3 fun k hk _ => by show ¬ w11.heap.size ≤ k; omega
      have hw3 : OwnB (fun k => w11.heap.size ≤ k) x3 v3 _ := hv3.mono fun k _ h => by rcases h with h | h <;> (have := G2.size; omega)
      clear hv3 kx3
      go_upto_region 20 with (at_builtin; refine wpList_app5 (F := fun k => w11.heap.size ≤ k) (by rfl) _ _ (by rfl) (by rfl) hw3 (some ⟨b8, o8 + pi, none⟩) (ei - pi) (c8 - pi) (by rfl) HL.out.2.2.2.1.symm (P4.out.keep (G3.old _)) (by simp only [List.length_append, List.length_nil, HL.out.1, HL.out.2.1, HL.out.2.2.1, HL.out.2.2.2.1]; omega) ?_; intro v4 x4 hv4 kx4)
      have G4 : Old w11 x4 := G3.trans kx4 fun k hk _ => by show ¬ w11.heap.size ≤ k; omega
      have hw4 : OwnB (fun k => w11.heap.size ≤ k) x4 v4 _ := hv4.mono fun k _ h => by rcases h with h | h <;> (have := G3.size; omega)
      clear hv4 kx4
      have hl4 : ([] ++ Y1 ++ Y2 ++ Y3 ++ Y4).length ≤ 1000000 := by simp only [List.length_append, List.length_nil, HL.out.1, HL.out.2.1, HL.out.2.2.1, HL.out.2.2.2.1]; omega
      have HL4 := hid hl4
      clear hl4
      go_cut [15] (fun v wx => OwnB (fun k => w11.heap.size ≤ k) wx v ([] ++ Y1 ++ Y2 ++ Y3 ++ Y4 ++ Y5) ∧ Old w11 wx)
      case first =>
        have hc8' : X.length ≤ c8 := hc8
        by_cases hce : c8 = ej
        · subst hce
          go_wp2_with (at_builtin; refine wpList_app5 (F := fun k => w11.heap.size ≤ k) (by rfl) _ _ (by rfl) (by rfl) hw4 (some ⟨b8, o8, none⟩) 0 0 (by rfl) (by have := HL.out.2.2.2.2.1; omega) ((P5.out _ (fun h => absurd h (by omega))).keep (G4.old _)) (by have h1 := HL4.out; have h2 := HL.out.2.2.2.2.1; omega) ?_; intro v5 x5 hv5 kx5)
          go_wp2
          go_meet
          exact ⟨hv5.mono fun k _ h => by rcases h with h | h <;> (have := G4.size; omega), G4.trans kx5 fun k hk _ => by show ¬ w11.heap.size ≤ k; omega⟩
        · go_wp2_with (at_builtin; refine wpList_app5 (F := fun k => w11.heap.size ≤ k) (by rfl) _ _ (by rfl) (by rfl) hw4 (some ⟨b8, o8 + ej, none⟩) (X.length - ej) (c8 - ej) (by rfl) HL.out.2.2.2.2.1.symm ((P5.out _ (fun _ => rfl)).keep (G4.old _)) (by have h1 := HL4.out; have h2 := HL.out.2.2.2.2.1; omega) ?_; intro v5 x5 hv5 kx5)
          go_wp2
          go_meet
          exact ⟨hv5.mono fun k _ h => by rcases h with h | h <;> (have := G4.size; omega), G4.trans kx5 fun k hk _ => by show ¬ w11.heap.size ≤ k; omega⟩
      case rest =>
      obtain ⟨hw5, G5⟩ := hcut
      have y5 := G5.size
      generalize wc = xc at *
      go_upto_region 21 with fail
      go_upto_region 22 with (at_builtin; refine wpList_app5 (F := fun k => xc.heap.size ≤ k) (by rfl) _ _ (by rfl) (by rfl) (OwnB.nil _ _) (some ⟨b8, o8, none⟩) pi c8 (by rfl) HL.out.1.symm (P1.out.keep (G5.old _)) (by have := HL.out.1; simp only [List.length_nil]; omega) ?_; intro v6 x6 hv6 kx6)
      have G6 : Old xc x6 := kx6.mono fun k hk _ => by show ¬ xc.heap.size ≤ k; omega
      have hw6 : OwnB (fun k => xc.heap.size ≤ k) x6 v6 _ := hv6.mono fun k _ h => by rcases h with h | h <;> exact h
      clear hv6 kx6
      have y6 := G6.size
      go_upto_region 23 with (at_builtin; refine wpList_app5 (F := fun k => xc.heap.size ≤ k) (by rfl) _ _ (by rfl) (by rfl) hw6 (some ⟨b8, o8 + ei, none⟩) (X.length - ei) (c8 - ei) (by rfl) HL.out.2.2.2.2.2.symm (P6.out.keep ((G5.trans' G6).old _)) (by have h1 := HL.out.1; have h2 := HL.out.2.2.2.2.2; simp only [List.length_append, List.length_nil]; omega) ?_; intro v7 x7 hv7 kx7)
      have G7 : Old xc x7 := G6.trans kx7 fun k hk _ => by show ¬ xc.heap.size ≤ k; omega
      have hw7 : OwnB (fun k => xc.heap.size ≤ k) x7 v7 _ := hv7.mono fun k _ h => by rcases h with h | h <;> omega
      clear hv7 kx7 hw6
      have e1 : [] ++ Y1 ++ Y2 ++ Y3 ++ Y4 ++ Y5 = Y1 ++ (Y2 ++ (Y3 ++ (Y4 ++ Y5))) := by simp only [List.nil_append, List.append_assoc]
      rw [e1] at hw5
      rw [List.nil_append] at hw7
      have KE := (KK.trans' G5).trans' G7
      generalize Y1 ++ (Y2 ++ (Y3 ++ (Y4 ++ Y5))) = T5 at HT hw5
      generalize Y1 ++ Y6 = T6 at HG hw7
      have o1 := open_val (hw5.keep (G7.old _)) (hT.keep (KE.old (fun _ => True)) trivial)
      rw [HT.out] at o1
      obtain ⟨A15, c15, h15, _, _⟩ := hw5.slice
      subst h15
      obtain ⟨A16, c16, h16, _, _⟩ := hw7.slice
      subst h16
      have ho2 := hid (fun W (hW : Old x7 W) (hTW : Tab W) => open_val (hw7.keep (hW.old _)) hTW)
      clear e1 hw5 hw7
      have mark23 := True.intro
      go_wp2_with fail
      refine o1.mono ?_
      rintro e u1 ⟨rfl, ku1⟩
      clear o1
      have o2 := ho2.out u1 ku1 (hT.keep ((KE.trans' ku1).old (fun _ => True)) trivial)
      rw [HG.out] at o2
      go_wp2_with fail
      refine o2.mono ?_
      rintro e u2 ⟨rfl, ku2⟩
      clear o2 ho2
      have KU := (KE.trans' ku1).trans' ku2
      have hX2 := hX.keep ((((G5.trans' G7).trans' ku1).trans' ku2).old _)
      obtain ⟨jj, hjj⟩ := HO.out
      have o3 : Calls Tryd.prog 32 #[.agg #[.slice (some ⟨b8, o8, none⟩) X.length c8, .slice none 0 0]] u2 (PostLOpen u2 (openJ (X, []))) :=
        lopen_any u2 _ _ none X.length 0 c8 0 X [] hX2 (Bts.nil _ _ _) rfl rfl hc8 (Nat.le_refl _) (hT.keep (KU.old (fun _ => True)) trivial)
      rw [hjj] at o3
      clear hjj
      go_wp2_with fail
      refine o3.mono ?_
      rintro e u3 ⟨F13, g13, a13, b13, p13, q13, L13, ql, rfl, hL13, hF13, hq13, hO13, ku3⟩
      clear o3 hL13
      have KV := KU.trans' ku3
      have hqn : ql.length = recs.length := by have h := congrArg List.length hq13; rw [List.length_map] at h; exact h
      obtain ⟨A13, c13, rfl, hc13, hR13⟩ := hO13.rcs (by omega)
      rw [hqn] at hc13 ⊢
      rw [hq13] at hR13
      have hli := lists_any u3 _ _ A13 _ c13 c recs recs hR13 (hr.keep (KV.old _))
      rw [decide_eq_true rfl] at hli
      clear hqn hq13 hO13 hR13
      go_wp2_with fail
      refine hli.mono ?_
      rintro e u4 ⟨rfl, n4', hw4'⟩
      clear hli
      go_wp2
      go_ret
      refine ⟨rfl, ?_⟩
      rw [← hw4']
      exact KV.trans' ((Keeps.refl _ _).drewN _)

theorem ordered_any (w : World) (S : Nat → Prop) (A : Option Addr) (c : Nat) (recs : List (List UInt8)) (i j : Int) (hr : Rcs S w A recs) (hc : recs.length ≤ c) (hl : recs.length ≤ 6000000000000) (hT : Tab w) :
    Calls Tryd.prog 4 #[.slice A recs.length c, .int .i64 i, .int .i64 j] w fun e w' => e = .returned (.bool true) ∧ Old w w' := by
  by_cases h : i < 0 ∨ j ≤ i ∨ (recs.length : Int) ≤ j ∨ sizeI recs < 0 ∨ 100000 < sizeI recs
  · exact ordered_no w S A c recs i j hr hl hT h
  · have hsm : ∀ r ∈ recs, r.length ≤ 65536 := by
      by_cases hx : ∀ r ∈ recs, r.length ≤ 65536
      · exact hx
      · exact absurd (.inr (.inr (.inr (.inl (by rw [sizeI_neg hx]; decide))))) h
    have hz := sizeI_ok hsm
    obtain ⟨m, rfl⟩ := Int.eq_ofNat_of_zero_le (show 0 ≤ i by omega)
    obtain ⟨n, rfl⟩ := Int.eq_ofNat_of_zero_le (show 0 ≤ j by omega)
    exact ordered_yes w S A c recs m n hr hc hT (by omega) (by omega) hsm (by omega)
end Go.Proofs.YtdpaaoeipconcaaDoor
