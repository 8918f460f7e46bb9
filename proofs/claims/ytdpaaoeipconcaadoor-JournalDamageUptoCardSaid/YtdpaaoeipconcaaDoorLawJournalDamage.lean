/- JournalDamage: one byte of a synced disk is another one: it is told. Conditions: the row's own. -/
import Derived.Test.YtdpaaoeipconcaaDoorJLaid
import Derived.Test.YtdpaaoeipconcaaDoorJDamage2
namespace Go.Proofs.YtdpaaoeipconcaaDoor.journalDamage
open Go.ChangeShapes Go.WideShapes Go.ChangeAt Go.RowKit
set_option linter.unusedVariables false
theorem readable : ∀ t ∈ Tryd.f13.params.toList, Tryd.prog.readableRec t = true ∧ t < Tryd.prog.types.size := by
  rw [Tryd.params13]
  intro t ht
  simp only [List.mem_cons, List.not_mem_nil, or_false] at ht
  rcases ht with rfl | rfl | rfl | rfl <;> exact ⟨by kernel_rfl, by decide +kernel⟩
theorem reads (os : Os) {H : Type} (enc : TypeId × Value → H) : ∃ places, DataW.whole enc Tryd.prog ((laidWorld os).forCall (fun _ _ => 0) ⟨#[], #[.slice none 0 0, .bool false, .int .i64 0, .int .u8 0], []⟩).memory Tryd.f13.params.toList Rows.journalDamageSpec.vars false #[Value.slice none 0 0, .bool false, .int .i64 0, .int .u8 0].toList 8 = some ([.nil, .lit (.bool false), .lit (.int .i64 0), .lit (.int .u8 0)], [], places) :=
  ⟨[], by kernel_rfl⟩
set_option maxRecDepth 100000 in
/-- What the walk gives, for every argument and every world that holds the table. -/
theorem contract (H : Type) (enc : TypeId × Value → H) (W : World) (base : Nat) (args : Array Value) (ds gs : List (DataW H)) (before : List MemPlace)
    (hval0 : ∀ (j : Nat) t v, Tryd.f13.params[j]? = some t → args[j]? = some v → Value.okWide Tryd.prog W .any base t v)
    (hW : DataW.Whole enc Tryd.prog Tryd.f13.params.toList Rows.journalDamageSpec.vars false W args.toList ds gs before) (hcond : ∀ k, (Rows.OpenSpec.upto Rows.journalDamageSpec).cond = some k → k H (ds ++ gs) = true)
    (hsz0 : (DataW.weightsEach Tryd.prog (Tryd.f13.params.toList ++ (Rows.OpenSpec.upto Rows.journalDamageSpec).bare.plain.varTypes Tryd.prog) (ds ++ gs)).all (· ≤ reachBytes) = true) (hL : laidMetH Tryd.prog Rows.journalDamageUptoRow.laid W) :
    Calls Tryd.prog 13 args W fun e W' => ∃ v, e = .returned v ∧ Rows.journalDamageSpec.post enc Tryd.prog Tryd.f13 false true false false W args v W' := by
  have hT : Tab W := tab_of_laid hL
  have hW0 := hW
  obtain ⟨p, q, hA, hV, rfl, hfz, hnd⟩ := hW
  obtain ⟨hgs, _⟩ := trodVars_none hV
  rw [Tryd.params13] at hA hsz0
  subst hgs
  obtain ⟨args⟩ := args
  change DataW.TrodAll enc Tryd.prog W 0 (fun _ => true) true [47, 4, 3, 5] args ds p at hA
  obtain ⟨a0, r0, d0, e0, p0, q0, rfl, rfl, rfl, t0, hA⟩ := trodAll_cons hA
  obtain ⟨a1, r1, d1, e1, p1, q1, rfl, rfl, rfl, t1, hA⟩ := trodAll_cons hA
  obtain ⟨a2, r2, d2, e2, p2, q2, rfl, rfl, rfl, t2, hA⟩ := trodAll_cons hA
  obtain ⟨a3, r3, d3, e3, p3, q3, rfl, rfl, rfl, t3, hA⟩ := trodAll_cons hA
  obtain ⟨rfl, rfl, rfl⟩ := trodAll_nil hA
  have f0 := fit_each (ts := Tryd.f13.params.toList ++ (Rows.OpenSpec.upto Rows.journalDamageSpec).bare.plain.varTypes Tryd.prog) (by rw [Tryd.params13]; exact hsz0) (j := 0) (t := 47) (by rw [Tryd.params13]; rfl) rfl
  have f1 := fit_each (ts := Tryd.f13.params.toList ++ (Rows.OpenSpec.upto Rows.journalDamageSpec).bare.plain.varTypes Tryd.prog) (by rw [Tryd.params13]; exact hsz0) (j := 1) (t := 4) (by rw [Tryd.params13]; rfl) rfl
  have f2 := fit_each (ts := Tryd.f13.params.toList ++ (Rows.OpenSpec.upto Rows.journalDamageSpec).bare.plain.varTypes Tryd.prog) (by rw [Tryd.params13]; exact hsz0) (j := 2) (t := 3) (by rw [Tryd.params13]; rfl) rfl
  have f3 := fit_each (ts := Tryd.f13.params.toList ++ (Rows.OpenSpec.upto Rows.journalDamageSpec).bare.plain.varTypes Tryd.prog) (by rw [Tryd.params13]; exact hsz0) (j := 3) (t := 5) (by rw [Tryd.params13]; rfl) rfl
  obtain ⟨m0, t0⟩ := t0
  have v0 := hval0 0 47 _ (by rw [Tryd.params13]; rfl) rfl
  obtain ⟨A0, c0, l0, hs0, hc0, hO0⟩ := open_ops t0 f0
  obtain ⟨x0, y0, z0, rfl⟩ := okWide_slice Tryd.underlying47 v0
  obtain ⟨hx, hy, hz⟩ : x0 = A0 ∧ y0 = l0.length ∧ z0 = c0 := by simpa [Value.cells] using hs0
  subst x0 y0 z0
  obtain ⟨m1, t1⟩ := t1
  have v1 := hval0 1 4 _ (by rw [Tryd.params13]; rfl) rfl
  obtain ⟨z1, rfl⟩ := okWide_bool Tryd.underlying4 v1
  obtain ⟨m2, t2⟩ := t2
  have v2 := hval0 2 3 _ (by rw [Tryd.params13]; rfl) rfl
  obtain ⟨z2, rfl⟩ := okWide_int Tryd.underlying3 v2
  obtain ⟨nb2, hb2, _, hw2⟩ := DataW.trod_int Tryd.underlying3 t2
  obtain rfl : z2 = nb2 := by injection hb2 with hb; injection hb
  simp only [Lit.wf, Bool.and_eq_true, decide_eq_true_eq] at hw2
  have lo2 : (-9223372036854775808 : Int) ≤ z2 := hw2.1
  have hi2 : z2 ≤ 9223372036854775807 := hw2.2
  obtain ⟨m3, t3⟩ := t3
  have v3 := hval0 3 5 _ (by rw [Tryd.params13]; rfl) rfl
  obtain ⟨z3, rfl⟩ := okWide_int Tryd.underlying5 v3
  obtain ⟨nb3, hb3, _, hw3⟩ := DataW.trod_int Tryd.underlying5 t3
  obtain rfl : z3 = nb3 := by injection hb3 with hb; injection hb
  simp only [Lit.wf, Bool.and_eq_true, decide_eq_true_eq] at hw3
  have lo3 : (0 : Int) ≤ z3 := hw3.1
  have hi3 : z3 ≤ 255 := hw3.2
  obtain ⟨y3, rfl⟩ := Int.eq_ofNat_of_zero_le lo3
  refine (damage_any W _ A0 c0 l0 hO0 (fun _ h => h) hT z1 z2 y3 hi3).mono fun e W' ⟨he, hold⟩ => ?_
  subst he
  exact ⟨_, rfl, post_true (by first | rfl | kernel_rfl) readable rfl hW0 rfl hold⟩
set_option maxRecDepth 100000 in
theorem lifted (os : Os) (started : os.Started) (H : Type) (enc : TypeId × Value → H) (F : Stop.Interp) :
    ReturnsInHanded {} Tryd.checked os 13 .any ((Rows.OpenSpec.upto Rows.journalDamageSpec).preRow enc Tryd.prog Tryd.f13 Rows.journalDamageUptoRow.domain false Rows.journalDamageUptoRow.laid) (((Rows.OpenSpec.upto Rows.journalDamageSpec).at F).post enc Tryd.prog Tryd.f13 false true false false) := by
  obtain ⟨places, hx⟩ := reads os enc
  refine returnsInHanded_of_row (C := Tryd.checked) (s := (Rows.OpenSpec.upto Rows.journalDamageSpec)) own_knob started (by kernel_rfl) Tryd.func13
    (witness_row_at (enc := enc) (C := Tryd.checked) false (laidWorld os) #[.slice none 0 0, .bool false, .int .i64 0, .int .u8 0] rfl (by kernel_rfl) (by kernel_rfl) (by kernel_rfl)
      (OpenSpec.preRow_of_cond 8 hx (by kernel_rfl) (fun k hk => by cases hk; kernel_rfl) (by kernel_rfl) (laid_met os _))) ?_
  intro W base args ds gs before hval hW _ hcond hsz hL _ _
  exact contract H enc W base args ds gs before hval hW hcond hsz hL
theorem said : Rows.JournalDamageUptoSaid :=
  OpenClaim.holds_of_cond 13 Tryd.f13 rfl rfl rfl rfl rfl rfl rfl ⟨rfl, rfl, rfl, rfl, rfl⟩ rfl rfl rfl rfl rfl (by kernel_rfl) Tryd.func13 (by kernel_rfl)
    (of_decide_eq_true (by kernel_rfl)) (by unfold Func.isWrapper; first | (rw [if_pos (by decide +kernel)]; kernel_rfl) | (rw [if_neg (by decide +kernel)]; exact ⟨rfl, rfl⟩))
    (fun os started H enc _ F => by rw [OpenClaim.pre_eq_preRow]; exact lifted os started H enc F)
/-- No parameter wants a stand-in; the program's own looks are off. -/
theorem plain (f : FuncId) (fn : Func) (hf : Tryd.pinned.checked.prog.funcNamed "weft/weftlaw12.JournalDamage" = some f) (hfn : Tryd.pinned.checked.prog.funcs[f]? = some fn) :
    false = Tryd.pinned.checked.prog.looks [] ∧ ∀ (j : Nat) t, fn.params[j]? = some t → Tryd.pinned.checked.prog.wantsStandIn t = false := by
  obtain rfl : f = 13 := Option.some.inj ((show Tryd.prog.funcNamed "weft/weftlaw12.JournalDamage" = some 13 by kernel_rfl).symm.trans hf) |>.symm
  obtain rfl : fn = Tryd.f13 := (Option.some.inj (Tryd.func13.symm.trans hfn)).symm
  refine ⟨by kernel_rfl, fun j t ht => ?_⟩
  rw [Tryd.params13] at ht
  have hm := Array.mem_of_getElem? ht
  have hall : ([47, 4, 3, 5].all fun u => !Tryd.prog.wantsStandIn u) = true := by kernel_rfl
  exact (show Tryd.prog.wantsStandIn t = false by simpa using List.all_eq_true.1 hall t (by simpa using hm))
end Go.Proofs.YtdpaaoeipconcaaDoor.journalDamage
namespace Go.Proofs.YtdpaaoeipconcaaDoor
open Go
/-- The card, for the claim. -/
theorem journalDamage_holds : Rows.JournalDamageUptoCardSaid :=
  Claim7.holds_tied_plain_at .later [] _ _ _ _ journalDamage.said (fun _ h => by cases h) (by kernel_rfl) (fun _ h => by cases h) journalDamageUpto_row_tie rfl ⟨rfl, rfl⟩ (by kernel_rfl) rfl journalDamage.plain (by kernel_rfl)
#print axioms journalDamage_holds
end Go.Proofs.YtdpaaoeipconcaaDoor
