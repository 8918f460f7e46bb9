/- JournalRecovers: crash on crash, what is opened has the records behind the last write that got down whole, and goes on from there. Conditions: the row's own. -/
import Derived.Test.YtdpaaoeipconcaaDoorJLaid
import Derived.Test.YtdpaaoeipconcaaDoorJRecov
namespace Go.Proofs.YtdpaaoeipconcaaDoor.journalRecovers
open Go.ChangeShapes Go.WideShapes Go.ChangeAt Go.RowKit
set_option linter.unusedVariables false
theorem readable : ∀ t ∈ Tryd.f11.params.toList, Tryd.prog.readableRec t = true ∧ t < Tryd.prog.types.size := by
  rw [Tryd.params11]
  intro t ht
  simp only [List.mem_cons, List.not_mem_nil, or_false] at ht
  rcases ht with rfl <;> exact ⟨by kernel_rfl, by decide +kernel⟩
theorem reads (os : Os) {H : Type} (enc : TypeId × Value → H) : ∃ places, DataW.whole enc Tryd.prog ((laidWorld os).forCall (fun _ _ => 0) ⟨#[], #[.slice none 0 0], []⟩).memory Tryd.f11.params.toList Rows.journalRecoversSpec.vars false #[Value.slice none 0 0].toList 8 = some ([.nil], [], places) :=
  ⟨[], by kernel_rfl⟩
set_option maxRecDepth 100000 in
/-- What the walk gives, for every argument and every world that holds the table. -/
theorem contract (H : Type) (enc : TypeId × Value → H) (W : World) (base : Nat) (args : Array Value) (ds gs : List (DataW H)) (before : List MemPlace)
    (hval0 : ∀ (j : Nat) t v, Tryd.f11.params[j]? = some t → args[j]? = some v → Value.okWide Tryd.prog W .any base t v)
    (hW : DataW.Whole enc Tryd.prog Tryd.f11.params.toList Rows.journalRecoversSpec.vars false W args.toList ds gs before) (hcond : ∀ k, (Rows.OpenSpec.upto Rows.journalRecoversSpec).cond = some k → k H (ds ++ gs) = true)
    (hsz0 : (DataW.weightsEach Tryd.prog (Tryd.f11.params.toList ++ (Rows.OpenSpec.upto Rows.journalRecoversSpec).bare.plain.varTypes Tryd.prog) (ds ++ gs)).all (· ≤ reachBytes) = true) (hL : laidMetH Tryd.prog Rows.journalRecoversUptoRow.laid W) :
    Calls Tryd.prog 11 args W fun e W' => ∃ v, e = .returned v ∧ Rows.journalRecoversSpec.post enc Tryd.prog Tryd.f11 false true false false W args v W' := by
  have hT : Tab W := tab_of_laid hL
  have hW0 := hW
  obtain ⟨p, q, hA, hV, rfl, hfz, hnd⟩ := hW
  obtain ⟨hgs, _⟩ := trodVars_none hV
  rw [Tryd.params11] at hA hsz0
  subst hgs
  obtain ⟨args⟩ := args
  change DataW.TrodAll enc Tryd.prog W 0 (fun _ => true) true [47] args ds p at hA
  obtain ⟨a0, r0, d0, e0, p0, q0, rfl, rfl, rfl, t0, hA⟩ := trodAll_cons hA
  obtain ⟨rfl, rfl, rfl⟩ := trodAll_nil hA
  have f0 := fit_each (ts := Tryd.f11.params.toList ++ (Rows.OpenSpec.upto Rows.journalRecoversSpec).bare.plain.varTypes Tryd.prog) (by rw [Tryd.params11]; exact hsz0) (j := 0) (t := 47) (by rw [Tryd.params11]; rfl) rfl
  obtain ⟨m0, t0⟩ := t0
  have v0 := hval0 0 47 _ (by rw [Tryd.params11]; rfl) rfl
  obtain ⟨A0, c0, l0, hs0, hc0, hO0⟩ := open_ops t0 f0
  obtain ⟨x0, y0, z0, rfl⟩ := okWide_slice Tryd.underlying47 v0
  obtain ⟨hx, hy, hz⟩ : x0 = A0 ∧ y0 = l0.length ∧ z0 = c0 := by simpa [Value.cells] using hs0
  subst x0 y0 z0
  refine (recovers_any W _ A0 c0 l0 hO0 (fun _ h => h) hT).mono fun e W' ⟨he, hold⟩ => ?_
  subst he
  exact ⟨_, rfl, post_true (by first | rfl | kernel_rfl) readable rfl hW0 rfl hold⟩
set_option maxRecDepth 100000 in
theorem lifted (os : Os) (started : os.Started) (H : Type) (enc : TypeId × Value → H) (F : Stop.Interp) :
    ReturnsInHanded {} Tryd.checked os 11 .any ((Rows.OpenSpec.upto Rows.journalRecoversSpec).preRow enc Tryd.prog Tryd.f11 Rows.journalRecoversUptoRow.domain false Rows.journalRecoversUptoRow.laid) (((Rows.OpenSpec.upto Rows.journalRecoversSpec).at F).post enc Tryd.prog Tryd.f11 false true false false) := by
  obtain ⟨places, hx⟩ := reads os enc
  refine returnsInHanded_of_row (C := Tryd.checked) (s := (Rows.OpenSpec.upto Rows.journalRecoversSpec)) own_knob started (by kernel_rfl) Tryd.func11
    (witness_row_at (enc := enc) (C := Tryd.checked) false (laidWorld os) #[.slice none 0 0] rfl (by kernel_rfl) (by kernel_rfl) (by kernel_rfl)
      (OpenSpec.preRow_of_cond 8 hx (by kernel_rfl) (fun k hk => by cases hk; kernel_rfl) (by kernel_rfl) (laid_met os _))) ?_
  intro W base args ds gs before hval hW _ hcond hsz hL _ _
  exact contract H enc W base args ds gs before hval hW hcond hsz hL
theorem said : Rows.JournalRecoversUptoSaid :=
  OpenClaim.holds_of_cond 11 Tryd.f11 rfl rfl rfl rfl rfl rfl rfl ⟨rfl, rfl, rfl, rfl, rfl⟩ rfl rfl rfl rfl rfl (by kernel_rfl) Tryd.func11 (by kernel_rfl)
    (of_decide_eq_true (by kernel_rfl)) (by unfold Func.isWrapper; first | (rw [if_pos (by decide +kernel)]; kernel_rfl) | (rw [if_neg (by decide +kernel)]; exact ⟨rfl, rfl⟩))
    (fun os started H enc _ F => by rw [OpenClaim.pre_eq_preRow]; exact lifted os started H enc F)
/-- No parameter wants a stand-in; the program's own looks are off. -/
theorem plain (f : FuncId) (fn : Func) (hf : Tryd.pinned.checked.prog.funcNamed "weft/weftlaw12.JournalRecovers" = some f) (hfn : Tryd.pinned.checked.prog.funcs[f]? = some fn) :
    false = Tryd.pinned.checked.prog.looks [] ∧ ∀ (j : Nat) t, fn.params[j]? = some t → Tryd.pinned.checked.prog.wantsStandIn t = false := by
  obtain rfl : f = 11 := Option.some.inj ((show Tryd.prog.funcNamed "weft/weftlaw12.JournalRecovers" = some 11 by kernel_rfl).symm.trans hf) |>.symm
  obtain rfl : fn = Tryd.f11 := (Option.some.inj (Tryd.func11.symm.trans hfn)).symm
  refine ⟨by kernel_rfl, fun j t ht => ?_⟩
  rw [Tryd.params11] at ht
  have hm := Array.mem_of_getElem? ht
  have hall : ([47].all fun u => !Tryd.prog.wantsStandIn u) = true := by kernel_rfl
  exact (show Tryd.prog.wantsStandIn t = false by simpa using List.all_eq_true.1 hall t (by simpa using hm))
end Go.Proofs.YtdpaaoeipconcaaDoor.journalRecovers
namespace Go.Proofs.YtdpaaoeipconcaaDoor
open Go
/-- The card, for the claim. -/
theorem journalRecovers_holds : Rows.JournalRecoversUptoCardSaid :=
  Claim7.holds_tied_plain_at .later [] _ _ _ _ journalRecovers.said (fun _ h => by cases h) (by kernel_rfl) (fun _ h => by cases h) journalRecoversUpto_row_tie rfl ⟨rfl, rfl⟩ (by kernel_rfl) rfl journalRecovers.plain (by kernel_rfl)
#print axioms journalRecovers_holds
end Go.Proofs.YtdpaaoeipconcaaDoor
