/- JournalFills: an area takes just so many bytes. Conditions: the row's own. -/
import Derived.Test.YtdpaaoeipconcaaDoorJLaid
import Derived.Test.YtdpaaoeipconcaaDoorJFills
namespace Go.Proofs.YtdpaaoeipconcaaDoor.journalFills
open Go.ChangeShapes Go.WideShapes Go.ChangeAt Go.RowKit
set_option linter.unusedVariables false
theorem readable : ∀ t ∈ Tryd.f16.params.toList, Tryd.prog.readableRec t = true ∧ t < Tryd.prog.types.size := by
  rw [Tryd.params16]
  intro t ht
  simp only [List.mem_cons, List.not_mem_nil, or_false] at ht
  rcases ht with rfl <;> exact ⟨by kernel_rfl, by decide +kernel⟩
theorem reads (os : Os) {H : Type} (enc : TypeId × Value → H) : ∃ places, DataW.whole enc Tryd.prog ((laidWorld os).forCall (fun _ _ => 0) ⟨#[], #[.int .i64 0], []⟩).memory Tryd.f16.params.toList Rows.journalFillsSpec.vars false #[Value.int .i64 0].toList 8 = some ([.lit (.int .i64 0)], [], places) :=
  ⟨[], by kernel_rfl⟩
set_option maxRecDepth 100000 in
/-- What the walk gives, for every argument and every world that holds the table. -/
theorem contract (H : Type) (enc : TypeId × Value → H) (W : World) (base : Nat) (args : Array Value) (ds gs : List (DataW H)) (before : List MemPlace)
    (hval0 : ∀ (j : Nat) t v, Tryd.f16.params[j]? = some t → args[j]? = some v → Value.okWide Tryd.prog W .any base t v)
    (hW : DataW.Whole enc Tryd.prog Tryd.f16.params.toList Rows.journalFillsSpec.vars false W args.toList ds gs before) (hcond : ∀ k, (Rows.OpenSpec.upto Rows.journalFillsSpec).cond = some k → k H (ds ++ gs) = true)
    (hsz0 : (DataW.weightsEach Tryd.prog (Tryd.f16.params.toList ++ (Rows.OpenSpec.upto Rows.journalFillsSpec).bare.plain.varTypes Tryd.prog) (ds ++ gs)).all (· ≤ reachBytes) = true) (hL : laidMetH Tryd.prog Rows.journalFillsUptoRow.laid W) :
    Calls Tryd.prog 16 args W fun e W' => ∃ v, e = .returned v ∧ Rows.journalFillsSpec.post enc Tryd.prog Tryd.f16 false true false false W args v W' := by
  have hT : Tab W := tab_of_laid hL
  have hW0 := hW
  obtain ⟨p, q, hA, hV, rfl, hfz, hnd⟩ := hW
  obtain ⟨hgs, _⟩ := trodVars_none hV
  rw [Tryd.params16] at hA hsz0
  subst hgs
  obtain ⟨args⟩ := args
  change DataW.TrodAll enc Tryd.prog W 0 (fun _ => true) true [3] args ds p at hA
  obtain ⟨a0, r0, d0, e0, p0, q0, rfl, rfl, rfl, t0, hA⟩ := trodAll_cons hA
  obtain ⟨rfl, rfl, rfl⟩ := trodAll_nil hA
  have f0 := fit_each (ts := Tryd.f16.params.toList ++ (Rows.OpenSpec.upto Rows.journalFillsSpec).bare.plain.varTypes Tryd.prog) (by rw [Tryd.params16]; exact hsz0) (j := 0) (t := 3) (by rw [Tryd.params16]; rfl) rfl
  obtain ⟨m0, t0⟩ := t0
  have v0 := hval0 0 3 _ (by rw [Tryd.params16]; rfl) rfl
  obtain ⟨z0, rfl⟩ := okWide_int Tryd.underlying3 v0
  obtain ⟨nb0, hb0, _, hw0⟩ := DataW.trod_int Tryd.underlying3 t0
  obtain rfl : z0 = nb0 := by injection hb0 with hb; injection hb
  simp only [Lit.wf, Bool.and_eq_true, decide_eq_true_eq] at hw0
  have lo0 : (-9223372036854775808 : Int) ≤ z0 := hw0.1
  have hi0 : z0 ≤ 9223372036854775807 := hw0.2
  refine (fills_any W z0 hT).mono fun e W' ⟨he, hold⟩ => ?_
  subst he
  exact ⟨_, rfl, post_true (by first | rfl | kernel_rfl) readable rfl hW0 rfl hold⟩
set_option maxRecDepth 100000 in
theorem lifted (os : Os) (started : os.Started) (H : Type) (enc : TypeId × Value → H) (F : Stop.Interp) :
    ReturnsInHanded {} Tryd.checked os 16 .any ((Rows.OpenSpec.upto Rows.journalFillsSpec).preRow enc Tryd.prog Tryd.f16 Rows.journalFillsUptoRow.domain false Rows.journalFillsUptoRow.laid) (((Rows.OpenSpec.upto Rows.journalFillsSpec).at F).post enc Tryd.prog Tryd.f16 false true false false) := by
  obtain ⟨places, hx⟩ := reads os enc
  refine returnsInHanded_of_row (C := Tryd.checked) (s := (Rows.OpenSpec.upto Rows.journalFillsSpec)) own_knob started (by kernel_rfl) Tryd.func16
    (witness_row_at (enc := enc) (C := Tryd.checked) false (laidWorld os) #[.int .i64 0] rfl (by kernel_rfl) (by kernel_rfl) (by kernel_rfl)
      (OpenSpec.preRow_of_cond 8 hx (by kernel_rfl) (fun k hk => by cases hk; kernel_rfl) (by kernel_rfl) (laid_met os _))) ?_
  intro W base args ds gs before hval hW _ hcond hsz hL _ _
  exact contract H enc W base args ds gs before hval hW hcond hsz hL
theorem said : Rows.JournalFillsUptoSaid :=
  OpenClaim.holds_of_cond 16 Tryd.f16 rfl rfl rfl rfl rfl rfl rfl ⟨rfl, rfl, rfl, rfl, rfl⟩ rfl rfl rfl rfl rfl (by kernel_rfl) Tryd.func16 (by kernel_rfl)
    (of_decide_eq_true (by kernel_rfl)) (by unfold Func.isWrapper; first | (rw [if_pos (by decide +kernel)]; kernel_rfl) | (rw [if_neg (by decide +kernel)]; exact ⟨rfl, rfl⟩))
    (fun os started H enc _ F => by rw [OpenClaim.pre_eq_preRow]; exact lifted os started H enc F)
/-- No parameter wants a stand-in; the program's own looks are off. -/
theorem plain (f : FuncId) (fn : Func) (hf : Tryd.pinned.checked.prog.funcNamed "weft/weftlaw12.JournalFills" = some f) (hfn : Tryd.pinned.checked.prog.funcs[f]? = some fn) :
    false = Tryd.pinned.checked.prog.looks [] ∧ ∀ (j : Nat) t, fn.params[j]? = some t → Tryd.pinned.checked.prog.wantsStandIn t = false := by
  obtain rfl : f = 16 := Option.some.inj ((show Tryd.prog.funcNamed "weft/weftlaw12.JournalFills" = some 16 by kernel_rfl).symm.trans hf) |>.symm
  obtain rfl : fn = Tryd.f16 := (Option.some.inj (Tryd.func16.symm.trans hfn)).symm
  refine ⟨by kernel_rfl, fun j t ht => ?_⟩
  rw [Tryd.params16] at ht
  have hm := Array.mem_of_getElem? ht
  have hall : ([3].all fun u => !Tryd.prog.wantsStandIn u) = true := by kernel_rfl
  exact (show Tryd.prog.wantsStandIn t = false by simpa using List.all_eq_true.1 hall t (by simpa using hm))
end Go.Proofs.YtdpaaoeipconcaaDoor.journalFills
namespace Go.Proofs.YtdpaaoeipconcaaDoor
open Go
/-- The card, for the claim. -/
theorem journalFills_holds : Rows.JournalFillsUptoCardSaid :=
  Claim7.holds_tied_plain_at .later [] _ _ _ _ journalFills.said (fun _ h => by cases h) (by kernel_rfl) (fun _ h => by cases h) journalFillsUpto_row_tie rfl ⟨rfl, rfl⟩ (by kernel_rfl) rfl journalFills.plain (by kernel_rfl)
#print axioms journalFills_holds
end Go.Proofs.YtdpaaoeipconcaaDoor
