/- JournalOrdered: frames that changed places, or one missing ahead of others, are told. Conditions: the row's own. -/
import Derived.Test.YtdpaaoeipconcaaDoorJLaid
import Derived.Test.YtdpaaoeipconcaaDoorJOrd
namespace Go.Proofs.YtdpaaoeipconcaaDoor.journalOrdered
open Go.ChangeShapes Go.WideShapes Go.ChangeAt Go.RowKit
set_option linter.unusedVariables false
theorem readable : ∀ t ∈ Tryd.f4.params.toList, Tryd.prog.readableRec t = true ∧ t < Tryd.prog.types.size := by
  rw [Tryd.params4]
  intro t ht
  simp only [List.mem_cons, List.not_mem_nil, or_false] at ht
  rcases ht with rfl | rfl | rfl <;> exact ⟨by kernel_rfl, by decide +kernel⟩
theorem reads (os : Os) {H : Type} (enc : TypeId × Value → H) : ∃ places, DataW.whole enc Tryd.prog ((laidWorld os).forCall (fun _ _ => 0) ⟨#[], #[.slice none 0 0, .int .i64 0, .int .i64 0], []⟩).memory Tryd.f4.params.toList Rows.journalOrderedSpec.vars false #[Value.slice none 0 0, .int .i64 0, .int .i64 0].toList 8 = some ([.nil, .lit (.int .i64 0), .lit (.int .i64 0)], [], places) :=
  ⟨[], by kernel_rfl⟩
set_option maxRecDepth 100000 in
/-- What the walk gives, for every argument and every world that holds the table. -/
theorem contract (H : Type) (enc : TypeId × Value → H) (W : World) (base : Nat) (args : Array Value) (ds gs : List (DataW H)) (before : List MemPlace)
    (hval0 : ∀ (j : Nat) t v, Tryd.f4.params[j]? = some t → args[j]? = some v → Value.okWide Tryd.prog W .any base t v)
    (hW : DataW.Whole enc Tryd.prog Tryd.f4.params.toList Rows.journalOrderedSpec.vars false W args.toList ds gs before) (hcond : ∀ k, (Rows.OpenSpec.upto Rows.journalOrderedSpec).cond = some k → k H (ds ++ gs) = true)
    (hsz0 : (DataW.weightsEach Tryd.prog (Tryd.f4.params.toList ++ (Rows.OpenSpec.upto Rows.journalOrderedSpec).bare.plain.varTypes Tryd.prog) (ds ++ gs)).all (· ≤ reachBytes) = true) (hL : laidMetH Tryd.prog Rows.journalOrderedUptoRow.laid W) :
    Calls Tryd.prog 4 args W fun e W' => ∃ v, e = .returned v ∧ Rows.journalOrderedSpec.post enc Tryd.prog Tryd.f4 false true false false W args v W' := by
  have hT : Tab W := tab_of_laid hL
  have hW0 := hW
  obtain ⟨p, q, hA, hV, rfl, hfz, hnd⟩ := hW
  obtain ⟨hgs, _⟩ := trodVars_none hV
  rw [Tryd.params4] at hA hsz0
  subst hgs
  obtain ⟨args⟩ := args
  change DataW.TrodAll enc Tryd.prog W 0 (fun _ => true) true [35, 3, 3] args ds p at hA
  obtain ⟨a0, r0, d0, e0, p0, q0, rfl, rfl, rfl, t0, hA⟩ := trodAll_cons hA
  obtain ⟨a1, r1, d1, e1, p1, q1, rfl, rfl, rfl, t1, hA⟩ := trodAll_cons hA
  obtain ⟨a2, r2, d2, e2, p2, q2, rfl, rfl, rfl, t2, hA⟩ := trodAll_cons hA
  obtain ⟨rfl, rfl, rfl⟩ := trodAll_nil hA
  have f0 := fit_each (ts := Tryd.f4.params.toList ++ (Rows.OpenSpec.upto Rows.journalOrderedSpec).bare.plain.varTypes Tryd.prog) (by rw [Tryd.params4]; exact hsz0) (j := 0) (t := 35) (by rw [Tryd.params4]; rfl) rfl
  have f1 := fit_each (ts := Tryd.f4.params.toList ++ (Rows.OpenSpec.upto Rows.journalOrderedSpec).bare.plain.varTypes Tryd.prog) (by rw [Tryd.params4]; exact hsz0) (j := 1) (t := 3) (by rw [Tryd.params4]; rfl) rfl
  have f2 := fit_each (ts := Tryd.f4.params.toList ++ (Rows.OpenSpec.upto Rows.journalOrderedSpec).bare.plain.varTypes Tryd.prog) (by rw [Tryd.params4]; exact hsz0) (j := 2) (t := 3) (by rw [Tryd.params4]; rfl) rfl
  obtain ⟨m0, t0⟩ := t0
  have v0 := hval0 0 35 _ (by rw [Tryd.params4]; rfl) rfl
  obtain ⟨A0, c0, l0, hs0, hc0, hO0⟩ := open_recs t0 f0
  obtain ⟨x0, y0, z0, rfl⟩ := okWide_slice Tryd.underlying35 v0
  obtain ⟨hx, hy, hz⟩ : x0 = A0 ∧ y0 = l0.length ∧ z0 = c0 := by simpa [Value.cells] using hs0
  subst x0 y0 z0
  obtain ⟨m1, t1⟩ := t1
  have v1 := hval0 1 3 _ (by rw [Tryd.params4]; rfl) rfl
  obtain ⟨z1, rfl⟩ := okWide_int Tryd.underlying3 v1
  obtain ⟨nb1, hb1, _, hw1⟩ := DataW.trod_int Tryd.underlying3 t1
  obtain rfl : z1 = nb1 := by injection hb1 with hb; injection hb
  simp only [Lit.wf, Bool.and_eq_true, decide_eq_true_eq] at hw1
  have lo1 : (-9223372036854775808 : Int) ≤ z1 := hw1.1
  have hi1 : z1 ≤ 9223372036854775807 := hw1.2
  obtain ⟨m2, t2⟩ := t2
  have v2 := hval0 2 3 _ (by rw [Tryd.params4]; rfl) rfl
  obtain ⟨z2, rfl⟩ := okWide_int Tryd.underlying3 v2
  obtain ⟨nb2, hb2, _, hw2⟩ := DataW.trod_int Tryd.underlying3 t2
  obtain rfl : z2 = nb2 := by injection hb2 with hb; injection hb
  simp only [Lit.wf, Bool.and_eq_true, decide_eq_true_eq] at hw2
  have lo2 : (-9223372036854775808 : Int) ≤ z2 := hw2.1
  have hi2 : z2 ≤ 9223372036854775807 := hw2.2
  refine (ordered_any W _ A0 c0 l0 z1 z2 hO0.2 hc0 hO0.1 hT).mono fun e W' ⟨he, hold⟩ => ?_
  subst he
  exact ⟨_, rfl, post_true (by first | rfl | kernel_rfl) readable rfl hW0 rfl hold⟩
set_option maxRecDepth 100000 in
theorem lifted (os : Os) (started : os.Started) (H : Type) (enc : TypeId × Value → H) (F : Stop.Interp) :
    ReturnsInHanded {} Tryd.checked os 4 .any ((Rows.OpenSpec.upto Rows.journalOrderedSpec).preRow enc Tryd.prog Tryd.f4 Rows.journalOrderedUptoRow.domain false Rows.journalOrderedUptoRow.laid) (((Rows.OpenSpec.upto Rows.journalOrderedSpec).at F).post enc Tryd.prog Tryd.f4 false true false false) := by
  obtain ⟨places, hx⟩ := reads os enc
  refine returnsInHanded_of_row (C := Tryd.checked) (s := (Rows.OpenSpec.upto Rows.journalOrderedSpec)) own_knob started (by kernel_rfl) Tryd.func4
    (witness_row_at (enc := enc) (C := Tryd.checked) false (laidWorld os) #[.slice none 0 0, .int .i64 0, .int .i64 0] rfl (by kernel_rfl) (by kernel_rfl) (by kernel_rfl)
      (OpenSpec.preRow_of_cond 8 hx (by kernel_rfl) (fun k hk => by cases hk; kernel_rfl) (by kernel_rfl) (laid_met os _))) ?_
  intro W base args ds gs before hval hW _ hcond hsz hL _ _
  exact contract H enc W base args ds gs before hval hW hcond hsz hL
theorem said : Rows.JournalOrderedUptoSaid :=
  OpenClaim.holds_of_cond 4 Tryd.f4 rfl rfl rfl rfl rfl rfl rfl ⟨rfl, rfl, rfl, rfl, rfl⟩ rfl rfl rfl rfl rfl (by kernel_rfl) Tryd.func4 (by kernel_rfl)
    (of_decide_eq_true (by kernel_rfl)) (by unfold Func.isWrapper; first | (rw [if_pos (by decide +kernel)]; kernel_rfl) | (rw [if_neg (by decide +kernel)]; exact ⟨rfl, rfl⟩))
    (fun os started H enc _ F => by rw [OpenClaim.pre_eq_preRow]; exact lifted os started H enc F)
/-- No parameter wants a stand-in; the program's own looks are off. -/
theorem plain (f : FuncId) (fn : Func) (hf : Tryd.pinned.checked.prog.funcNamed "weft/weftlaw12.JournalOrdered" = some f) (hfn : Tryd.pinned.checked.prog.funcs[f]? = some fn) :
    false = Tryd.pinned.checked.prog.looks [] ∧ ∀ (j : Nat) t, fn.params[j]? = some t → Tryd.pinned.checked.prog.wantsStandIn t = false := by
  obtain rfl : f = 4 := Option.some.inj ((show Tryd.prog.funcNamed "weft/weftlaw12.JournalOrdered" = some 4 by kernel_rfl).symm.trans hf) |>.symm
  obtain rfl : fn = Tryd.f4 := (Option.some.inj (Tryd.func4.symm.trans hfn)).symm
  refine ⟨by kernel_rfl, fun j t ht => ?_⟩
  rw [Tryd.params4] at ht
  have hm := Array.mem_of_getElem? ht
  have hall : ([35, 3, 3].all fun u => !Tryd.prog.wantsStandIn u) = true := by kernel_rfl
  exact (show Tryd.prog.wantsStandIn t = false by simpa using List.all_eq_true.1 hall t (by simpa using hm))
end Go.Proofs.YtdpaaoeipconcaaDoor.journalOrdered
namespace Go.Proofs.YtdpaaoeipconcaaDoor
open Go
/-- The card, for the claim. -/
theorem journalOrdered_holds : Rows.JournalOrderedUptoCardSaid :=
  Claim7.holds_tied_plain_at .later [] _ _ _ _ journalOrdered.said (fun _ h => by cases h) (by kernel_rfl) (fun _ h => by cases h) journalOrderedUpto_row_tie rfl ⟨rfl, rfl⟩ (by kernel_rfl) rfl journalOrdered.plain (by kernel_rfl)
#print axioms journalOrdered_holds
end Go.Proofs.YtdpaaoeipconcaaDoor
