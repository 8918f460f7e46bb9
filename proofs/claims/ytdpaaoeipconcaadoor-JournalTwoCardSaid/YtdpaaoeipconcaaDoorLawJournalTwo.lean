/- JournalTwo: two journals, their steps in turns. No conditions. -/
import Derived.Test.YtdpaaoeipconcaaDoorJLaid
import Derived.Test.YtdpaaoeipconcaaDoorJTwo
namespace Go.Proofs.YtdpaaoeipconcaaDoor.journalTwo
open Go.ChangeShapes Go.WideShapes Go.ChangeAt Go.RowKit
set_option linter.unusedVariables false
theorem readable : ∀ t ∈ Tryd.f10.params.toList, Tryd.prog.readableRec t = true ∧ t < Tryd.prog.types.size := by
  rw [Tryd.params10]
  intro t ht
  simp only [List.mem_cons, List.not_mem_nil, or_false] at ht
  rcases ht with rfl | rfl | rfl | rfl <;> exact ⟨by kernel_rfl, by decide +kernel⟩
theorem reads (os : Os) {H : Type} (enc : TypeId × Value → H) : ∃ places, DataW.whole enc Tryd.prog ((laidWorld os).forCall (fun _ _ => 0) ⟨#[], #[.agg #[.slice none 0 0, .slice none 0 0], .agg #[.slice none 0 0, .slice none 0 0], .slice none 0 0, .slice none 0 0], []⟩).memory Tryd.f10.params.toList Rows.journalTwoSpec.vars false #[Value.agg #[.slice none 0 0, .slice none 0 0], .agg #[.slice none 0 0, .slice none 0 0], .slice none 0 0, .slice none 0 0].toList 8 = some ([.agg [.nil, .nil], .agg [.nil, .nil], .nil, .nil], [], places) :=
  ⟨[], by kernel_rfl⟩
set_option maxRecDepth 100000 in
/-- What the walk gives, for every argument and every world that holds the table. -/
theorem contract (H : Type) (enc : TypeId × Value → H) (W : World) (base : Nat) (args : Array Value) (ds gs : List (DataW H)) (before : List MemPlace)
    (hval0 : ∀ (j : Nat) t v, Tryd.f10.params[j]? = some t → args[j]? = some v → Value.okWide Tryd.prog W .any base t v)
    (hW : DataW.Whole enc Tryd.prog Tryd.f10.params.toList Rows.journalTwoSpec.vars false W args.toList ds gs before)
    (hsz0 : (DataW.weightsEach Tryd.prog (Tryd.f10.params.toList ++ (OpenSpec.ofChange Rows.journalTwoSpec).bare.plain.varTypes Tryd.prog) (ds ++ gs)).all (· ≤ reachBytes) = true) (hL : laidMetH Tryd.prog Rows.journalTwoRow.laid W) :
    Calls Tryd.prog 10 args W fun e W' => ∃ v, e = .returned v ∧ Rows.journalTwoSpec.post enc Tryd.prog Tryd.f10 false true false false W args v W' := by
  have hT : Tab W := tab_of_laid hL
  have hW0 := hW
  obtain ⟨p, q, hA, hV, rfl, hfz, hnd⟩ := hW
  obtain ⟨hgs, _⟩ := trodVars_none hV
  rw [Tryd.params10] at hA hsz0
  subst hgs
  obtain ⟨args⟩ := args
  change DataW.TrodAll enc Tryd.prog W 0 (fun _ => true) true [24, 24, 47, 50] args ds p at hA
  obtain ⟨a0, r0, d0, e0, p0, q0, rfl, rfl, rfl, t0, hA⟩ := trodAll_cons hA
  obtain ⟨a1, r1, d1, e1, p1, q1, rfl, rfl, rfl, t1, hA⟩ := trodAll_cons hA
  obtain ⟨a2, r2, d2, e2, p2, q2, rfl, rfl, rfl, t2, hA⟩ := trodAll_cons hA
  obtain ⟨a3, r3, d3, e3, p3, q3, rfl, rfl, rfl, t3, hA⟩ := trodAll_cons hA
  obtain ⟨rfl, rfl, rfl⟩ := trodAll_nil hA
  have f0 := fit_each (ts := Tryd.f10.params.toList ++ (OpenSpec.ofChange Rows.journalTwoSpec).bare.plain.varTypes Tryd.prog) (by rw [Tryd.params10]; exact hsz0) (j := 0) (t := 24) (by rw [Tryd.params10]; rfl) rfl
  have f1 := fit_each (ts := Tryd.f10.params.toList ++ (OpenSpec.ofChange Rows.journalTwoSpec).bare.plain.varTypes Tryd.prog) (by rw [Tryd.params10]; exact hsz0) (j := 1) (t := 24) (by rw [Tryd.params10]; rfl) rfl
  have f2 := fit_each (ts := Tryd.f10.params.toList ++ (OpenSpec.ofChange Rows.journalTwoSpec).bare.plain.varTypes Tryd.prog) (by rw [Tryd.params10]; exact hsz0) (j := 2) (t := 47) (by rw [Tryd.params10]; rfl) rfl
  have f3 := fit_each (ts := Tryd.f10.params.toList ++ (OpenSpec.ofChange Rows.journalTwoSpec).bare.plain.varTypes Tryd.prog) (by rw [Tryd.params10]; exact hsz0) (j := 3) (t := 50) (by rw [Tryd.params10]; rfl) rfl
  obtain ⟨m0, t0⟩ := t0
  have v0 := hval0 0 24 _ (by rw [Tryd.params10]; rfl) rfl
  obtain ⟨cells0, rfl, hcs0⟩ := okWide_struct Tryd.underlying24 v0
  obtain ⟨cells0⟩ := cells0
  obtain ⟨A0, c0, B0, b0, xs0, ys0, hk0, hc0, hd0, hA0, hB0⟩ := open_disk t0 f0
  obtain rfl : cells0 = _ := hk0
  obtain ⟨m1, t1⟩ := t1
  have v1 := hval0 1 24 _ (by rw [Tryd.params10]; rfl) rfl
  obtain ⟨cells1, rfl, hcs1⟩ := okWide_struct Tryd.underlying24 v1
  obtain ⟨cells1⟩ := cells1
  obtain ⟨A1, c1, B1, b1, xs1, ys1, hk1, hc1, hd1, hA1, hB1⟩ := open_disk t1 f1
  obtain rfl : cells1 = _ := hk1
  obtain ⟨m2, t2⟩ := t2
  have v2 := hval0 2 47 _ (by rw [Tryd.params10]; rfl) rfl
  obtain ⟨A2, c2, l2, hs2, hc2, hO2⟩ := open_ops t2 f2
  obtain ⟨x2, y2, z2, rfl⟩ := okWide_slice Tryd.underlying47 v2
  obtain ⟨hx, hy, hz⟩ : x2 = A2 ∧ y2 = l2.length ∧ z2 = c2 := by simpa [Value.cells] using hs2
  subst x2 y2 z2
  obtain ⟨m3, t3⟩ := t3
  have v3 := hval0 3 50 _ (by rw [Tryd.params10]; rfl) rfl
  obtain ⟨A3, c3, l3, hs3, hc3, hO3⟩ := open_bools t3 f3
  obtain ⟨x3, y3, z3, rfl⟩ := okWide_slice Tryd.underlying50 v3
  obtain ⟨hx, hy, hz⟩ : x3 = A3 ∧ y3 = l3.length ∧ z3 = c3 := by simpa [Value.cells] using hs3
  subst x3 y3 z3
  refine (two_any W _ A0 B0 A1 B1 _ _ c0 b0 _ _ c1 b1 xs0 ys0 xs1 ys1 hA0 hB0 rfl rfl hc0 hd0 hA1 hB1 rfl rfl hc1 hd1 A2 c2 l2 hO2 A3 c3 l3 hO3 (fun _ h => h) hT).mono fun e W' ⟨he, hold⟩ => ?_
  subst he
  exact ⟨_, rfl, post_true (by first | rfl | kernel_rfl) readable rfl hW0 rfl hold⟩
set_option maxRecDepth 100000 in
theorem lifted (os : Os) (started : os.Started) (H : Type) (enc : TypeId × Value → H) (F : Stop.Interp) :
    ReturnsInHanded {} Tryd.checked os 10 .any ((OpenSpec.ofChange Rows.journalTwoSpec).preRow enc Tryd.prog Tryd.f10 Rows.journalTwoRow.domain false Rows.journalTwoRow.laid) (((OpenSpec.ofChange Rows.journalTwoSpec).at F).post enc Tryd.prog Tryd.f10 false true false false) := by
  obtain ⟨places, hx⟩ := reads os enc
  refine returnsInHanded_of_row (C := Tryd.checked) (s := (OpenSpec.ofChange Rows.journalTwoSpec)) own_knob started (by kernel_rfl) Tryd.func10
    (witness_row_at (enc := enc) (C := Tryd.checked) false (laidWorld os) #[.agg #[.slice none 0 0, .slice none 0 0], .agg #[.slice none 0 0, .slice none 0 0], .slice none 0 0, .slice none 0 0] rfl (by kernel_rfl) (by kernel_rfl) (by kernel_rfl)
      (OpenSpec.preRow_of_cond 8 hx (by kernel_rfl) (fun k hk => by cases hk) (by kernel_rfl) (laid_met os _))) ?_
  intro W base args ds gs before hval hW _ hcond hsz hL _ _
  exact contract H enc W base args ds gs before hval hW hsz hL
theorem said : Rows.JournalTwoSaid :=
  OpenClaim.holds_of_cond 10 Tryd.f10 rfl rfl rfl rfl rfl rfl rfl ⟨rfl, rfl, rfl, rfl, rfl⟩ rfl rfl rfl rfl rfl (by kernel_rfl) Tryd.func10 (by kernel_rfl)
    (of_decide_eq_true (by kernel_rfl)) (by unfold Func.isWrapper; first | (rw [if_pos (by decide +kernel)]; kernel_rfl) | (rw [if_neg (by decide +kernel)]; exact ⟨rfl, rfl⟩))
    (fun os started H enc _ F => by rw [OpenClaim.pre_eq_preRow]; exact lifted os started H enc F)
/-- No parameter wants a stand-in; the program's own looks are off. -/
theorem plain (f : FuncId) (fn : Func) (hf : Tryd.pinned.checked.prog.funcNamed "weft/weftlaw12.JournalTwo" = some f) (hfn : Tryd.pinned.checked.prog.funcs[f]? = some fn) :
    false = Tryd.pinned.checked.prog.looks [] ∧ ∀ (j : Nat) t, fn.params[j]? = some t → Tryd.pinned.checked.prog.wantsStandIn t = false := by
  obtain rfl : f = 10 := Option.some.inj ((show Tryd.prog.funcNamed "weft/weftlaw12.JournalTwo" = some 10 by kernel_rfl).symm.trans hf) |>.symm
  obtain rfl : fn = Tryd.f10 := (Option.some.inj (Tryd.func10.symm.trans hfn)).symm
  refine ⟨by kernel_rfl, fun j t ht => ?_⟩
  rw [Tryd.params10] at ht
  have hm := Array.mem_of_getElem? ht
  have hall : ([24, 24, 47, 50].all fun u => !Tryd.prog.wantsStandIn u) = true := by kernel_rfl
  exact (show Tryd.prog.wantsStandIn t = false by simpa using List.all_eq_true.1 hall t (by simpa using hm))
end Go.Proofs.YtdpaaoeipconcaaDoor.journalTwo
namespace Go.Proofs.YtdpaaoeipconcaaDoor
open Go
/-- The card, for the claim. -/
theorem journalTwo_holds : Rows.JournalTwoCardSaid :=
  Claim7.holds_tied_plain_at .later [] _ _ _ _ journalTwo.said (fun _ h => by cases h) (by kernel_rfl) (fun _ h => by cases h) journalTwo_row_tie rfl ⟨rfl, rfl⟩ (by kernel_rfl) rfl journalTwo.plain (by kernel_rfl)
#print axioms journalTwo_holds
end Go.Proofs.YtdpaaoeipconcaaDoor
