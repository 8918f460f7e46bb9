/- JournalFresh: memory, in and out: what is handed in is neither changed nor kept, what is answered is new memory, and records handed in always in the same places are read as they are. Conditions: the row's own. -/
import Derived.Test.YtdpaaoeipconcaaDoorJLaid
import Derived.Test.YtdpaaoeipconcaaDoorJFr
import Derived.Test.YtdpaaoeipconcaaDoorJBulk
namespace Go.Proofs.YtdpaaoeipconcaaDoor.journalFresh
open Go.ChangeShapes Go.WideShapes Go.ChangeAt Go.RowKit
set_option linter.unusedVariables false
theorem readable : ∀ t ∈ Tryd.f17.params.toList, Tryd.prog.readableRec t = true ∧ t < Tryd.prog.types.size := by
  rw [Tryd.params17]
  intro t ht
  simp only [List.mem_cons, List.not_mem_nil, or_false] at ht
  rcases ht with rfl | rfl <;> exact ⟨by kernel_rfl, by decide +kernel⟩
theorem reads (os : Os) {H : Type} (enc : TypeId × Value → H) : ∃ places, DataW.whole enc Tryd.prog ((laidWorld os).forCall (fun _ _ => 0) ⟨#[], #[.agg #[.slice none 0 0, .slice none 0 0], .slice none 0 0], []⟩).memory Tryd.f17.params.toList Rows.journalFreshSpec.vars false #[Value.agg #[.slice none 0 0, .slice none 0 0], .slice none 0 0].toList 8 = some ([.agg [.nil, .nil], .nil], [], places) :=
  ⟨[], by kernel_rfl⟩
set_option maxRecDepth 100000 in
/-- What the walk gives, for every argument and every world that holds the table. -/
theorem contract (H : Type) (enc : TypeId × Value → H) (W : World) (base : Nat) (args : Array Value) (ds gs : List (DataW H)) (before : List MemPlace)
    (hval0 : ∀ (j : Nat) t v, Tryd.f17.params[j]? = some t → args[j]? = some v → Value.okWide Tryd.prog W .any base t v)
    (hW : DataW.Whole enc Tryd.prog Tryd.f17.params.toList Rows.journalFreshSpec.vars false W args.toList ds gs before) (hcond : ∀ k, (Rows.OpenSpec.upto Rows.journalFreshSpec).cond = some k → k H (ds ++ gs) = true)
    (hsz0 : (DataW.weightsEach Tryd.prog (Tryd.f17.params.toList ++ (Rows.OpenSpec.upto Rows.journalFreshSpec).bare.plain.varTypes Tryd.prog) (ds ++ gs)).all (· ≤ reachBytes) = true) (hL : laidMetH Tryd.prog Rows.journalFreshUptoRow.laid W) :
    Calls Tryd.prog 17 args W fun e W' => ∃ v, e = .returned v ∧ Rows.journalFreshSpec.post enc Tryd.prog Tryd.f17 false true false false W args v W' := by
  have hT : Tab W := tab_of_laid hL
  have hW0 := hW
  obtain ⟨p, q, hA, hV, rfl, hfz, hnd⟩ := hW
  obtain ⟨hgs, _⟩ := trodVars_none hV
  rw [Tryd.params17] at hA hsz0
  subst hgs
  obtain ⟨args⟩ := args
  change DataW.TrodAll enc Tryd.prog W 0 (fun _ => true) true [24, 47] args ds p at hA
  obtain ⟨a0, r0, d0, e0, p0, q0, rfl, rfl, rfl, t0, hA⟩ := trodAll_cons hA
  obtain ⟨a1, r1, d1, e1, p1, q1, rfl, rfl, rfl, t1, hA⟩ := trodAll_cons hA
  obtain ⟨rfl, rfl, rfl⟩ := trodAll_nil hA
  have f0 := fit_each (ts := Tryd.f17.params.toList ++ (Rows.OpenSpec.upto Rows.journalFreshSpec).bare.plain.varTypes Tryd.prog) (by rw [Tryd.params17]; exact hsz0) (j := 0) (t := 24) (by rw [Tryd.params17]; rfl) rfl
  have f1 := fit_each (ts := Tryd.f17.params.toList ++ (Rows.OpenSpec.upto Rows.journalFreshSpec).bare.plain.varTypes Tryd.prog) (by rw [Tryd.params17]; exact hsz0) (j := 1) (t := 47) (by rw [Tryd.params17]; rfl) rfl
  obtain ⟨m0, t0⟩ := t0
  have v0 := hval0 0 24 _ (by rw [Tryd.params17]; rfl) rfl
  obtain ⟨cells0, rfl, hcs0⟩ := okWide_struct Tryd.underlying24 v0
  obtain ⟨cells0⟩ := cells0
  obtain ⟨A0, c0, B0, b0, xs0, ys0, hk0, hc0, hd0, bx0, by0, hA0, hB0⟩ := open_disk2 t0 f0
  obtain rfl : cells0 = _ := hk0
  obtain ⟨m1, t1⟩ := t1
  have v1 := hval0 1 47 _ (by rw [Tryd.params17]; rfl) rfl
  obtain ⟨A1, c1, l1, hs1, hc1, hO1, bl1, be1⟩ := open_ops2 t1 f1
  obtain ⟨x1, y1, z1, rfl⟩ := okWide_slice Tryd.underlying47 v1
  obtain ⟨hx, hy, hz⟩ : x1 = A1 ∧ y1 = l1.length ∧ z1 = c1 := by simpa [Value.cells] using hs1
  subst x1 y1 z1
  have hbulk := of_decide_eq_true (hcond _ rfl)
  simp only [List.append_nil, Rows.uptoBulkAll] at hbulk
  refine (fresh_any W _ A0 B0 _ _ c0 b0 xs0 ys0 hA0 hB0 rfl rfl hc0 hd0 A1 c1 l1 hO1 (fun _ h => h) hT ⟨by dsimp only at *; omega, fun x hx => by have h := be1 x hx; dsimp only at *; exact ⟨by omega, by omega, fun r hr => by have := h.2.2 r hr; omega⟩⟩ (by dsimp only at *; omega) (by dsimp only at *; omega) (by dsimp only at *; omega)).mono fun e W' ⟨he, hold⟩ => ?_
  subst he
  exact ⟨_, rfl, post_true (by first | rfl | kernel_rfl) readable rfl hW0 rfl hold⟩
set_option maxRecDepth 100000 in
theorem lifted (os : Os) (started : os.Started) (H : Type) (enc : TypeId × Value → H) (F : Stop.Interp) :
    ReturnsInHanded {} Tryd.checked os 17 .any ((Rows.OpenSpec.upto Rows.journalFreshSpec).preRow enc Tryd.prog Tryd.f17 Rows.journalFreshUptoRow.domain false Rows.journalFreshUptoRow.laid) (((Rows.OpenSpec.upto Rows.journalFreshSpec).at F).post enc Tryd.prog Tryd.f17 false true false false) := by
  obtain ⟨places, hx⟩ := reads os enc
  refine returnsInHanded_of_row (C := Tryd.checked) (s := (Rows.OpenSpec.upto Rows.journalFreshSpec)) own_knob started (by kernel_rfl) Tryd.func17
    (witness_row_at (enc := enc) (C := Tryd.checked) false (laidWorld os) #[.agg #[.slice none 0 0, .slice none 0 0], .slice none 0 0] rfl (by kernel_rfl) (by kernel_rfl) (by kernel_rfl)
      (OpenSpec.preRow_of_cond 8 hx (by kernel_rfl) (fun k hk => by cases hk; kernel_rfl) (by kernel_rfl) (laid_met os _))) ?_
  intro W base args ds gs before hval hW _ hcond hsz hL _ _
  exact contract H enc W base args ds gs before hval hW hcond hsz hL
theorem said : Rows.JournalFreshUptoSaid :=
  OpenClaim.holds_of_cond 17 Tryd.f17 rfl rfl rfl rfl rfl rfl rfl ⟨rfl, rfl, rfl, rfl, rfl⟩ rfl rfl rfl rfl rfl (by kernel_rfl) Tryd.func17 (by kernel_rfl)
    (of_decide_eq_true (by kernel_rfl)) (by unfold Func.isWrapper; first | (rw [if_pos (by decide +kernel)]; kernel_rfl) | (rw [if_neg (by decide +kernel)]; exact ⟨rfl, rfl⟩))
    (fun os started H enc _ F => by rw [OpenClaim.pre_eq_preRow]; exact lifted os started H enc F)
/-- No parameter wants a stand-in; the program's own looks are off. -/
theorem plain (f : FuncId) (fn : Func) (hf : Tryd.pinned.checked.prog.funcNamed "weft/weftlaw12.JournalFresh" = some f) (hfn : Tryd.pinned.checked.prog.funcs[f]? = some fn) :
    false = Tryd.pinned.checked.prog.looks [] ∧ ∀ (j : Nat) t, fn.params[j]? = some t → Tryd.pinned.checked.prog.wantsStandIn t = false := by
  obtain rfl : f = 17 := Option.some.inj ((show Tryd.prog.funcNamed "weft/weftlaw12.JournalFresh" = some 17 by kernel_rfl).symm.trans hf) |>.symm
  obtain rfl : fn = Tryd.f17 := (Option.some.inj (Tryd.func17.symm.trans hfn)).symm
  refine ⟨by kernel_rfl, fun j t ht => ?_⟩
  rw [Tryd.params17] at ht
  have hm := Array.mem_of_getElem? ht
  have hall : ([24, 47].all fun u => !Tryd.prog.wantsStandIn u) = true := by kernel_rfl
  exact (show Tryd.prog.wantsStandIn t = false by simpa using List.all_eq_true.1 hall t (by simpa using hm))
end Go.Proofs.YtdpaaoeipconcaaDoor.journalFresh
namespace Go.Proofs.YtdpaaoeipconcaaDoor
open Go
/-- The card, for the claim. -/
theorem journalFresh_holds : Rows.JournalFreshUptoCardSaid :=
  Claim7.holds_tied_plain_at .later [] _ _ _ _ journalFresh.said (fun _ h => by cases h) (by kernel_rfl) (fun _ h => by cases h) journalFreshUpto_row_tie rfl ⟨rfl, rfl⟩ (by kernel_rfl) rfl journalFresh.plain (by kernel_rfl)
#print axioms journalFresh_holds
end Go.Proofs.YtdpaaoeipconcaaDoor
