/- The row of weftlaw18.UnderFills: just limit packets are in flight, and no more, whatever the input. No conditions. -/
import Derived.Test.YtgnndggbjipioaaAOpen
import Derived.Test.YtgnndggbjipioaaAFills
import Derived.OpenShut
import Derived.SizedLaws
namespace Go.Proofs.Ytgnndggbjipioaa.underFills
open Go.ChangeShapes Go.WideShapes Go.ChangeAt Go.RowKit
set_option linter.unusedVariables false
theorem own : ownKnob Try.prog.godebug = none := by kernel_rfl
theorem readable : ∀ t ∈ Try.f15.params.toList, Try.prog.readableRec t = true ∧ t < Try.prog.types.size := by
  rw [Try.params15]
  intro t ht
  simp only [List.mem_cons, List.not_mem_nil, or_false] at ht
  rcases ht with rfl | rfl <;> exact ⟨by kernel_rfl, by decide +kernel⟩
set_option maxRecDepth 100000 in
theorem lifted (os : Os) (started : os.Started) (H : Type) (enc : TypeId × Value → H) :
    ReturnsInHanded {} Try.checked os 15 .any (Rows.underFillsSpec.pre6 enc Try.prog Try.f15 Rows.underFillsRow.domain false) (Rows.underFillsSpec.post enc Try.prog Try.f15 false true false false) := by
  refine returnsInHanded_of_change_sized (C := Try.checked) own started (by kernel_rfl) Try.func15
    (ChangeSpec.witness6 (enc := enc) (C := Try.checked) false ⟨#[], #[.int .i64 0, .agg #[.int .u32 0, .slice none 0 0]], []⟩ 8 (by kernel_rfl) (by kernel_rfl) (by kernel_rfl) (by kernel_rfl)) ?_
  intro W base args ds gs before hval0 hW hcnd hsz0 _
  have hW0 := hW
  obtain ⟨p, q, hA, hV, rfl, hfz, hnd⟩ := hW
  obtain ⟨hgs, _⟩ := trodVars_none hV
  rw [Try.params15] at hA hsz0
  subst hgs
  obtain ⟨args⟩ := args
  change DataW.TrodAll enc Try.prog W 0 (fun _ => true) true [3, 48] args ds p at hA
  obtain ⟨a0, r0, d0, e0, p0, q0, rfl, rfl, rfl, t0, hA⟩ := trodAll_cons hA
  obtain ⟨a1, r1, d1, e1, p1, q1, rfl, rfl, rfl, t1, hA⟩ := trodAll_cons hA
  obtain ⟨rfl, rfl, rfl⟩ := trodAll_nil hA
  have f0 := fit_each (ts := Try.f15.params.toList ++ Rows.underFillsSpec.plain.varTypes Try.prog) (by rw [Try.params15]; exact hsz0) (j := 0) (t := 3) (by rw [Try.params15]; rfl) rfl
  have f1 := fit_each (ts := Try.f15.params.toList ++ Rows.underFillsSpec.plain.varTypes Try.prog) (by rw [Try.params15]; exact hsz0) (j := 1) (t := 48) (by rw [Try.params15]; rfl) rfl
  obtain ⟨m0, t0⟩ := t0
  have v0 := hval0 0 3 _ (by rw [Try.params15]; rfl) rfl
  obtain ⟨n0, rfl⟩ := okWide_int Try.underlying3 v0
  obtain ⟨m1, t1⟩ := t1
  have v1 := hval0 1 48 _ (by rw [Try.params15]; rfl) rfl
  obtain ⟨cells1, rfl, hcs1⟩ := okWide_struct Try.underlying48 v1
  obtain ⟨cells1⟩ := cells1
  obtain ⟨n1, A1, c1, l1, hk1, hc1, hB1⟩ := open_pk t1 f1
  obtain rfl : cells1 = _ := hk1
  refine (fills_any W _ n0 n1 A1 c1 l1 hB1 hc1 (fun _ h => h)).mono fun e W' ⟨he, hold⟩ => ?_
  subst he
  exact ⟨_, rfl, post_true (by first | rfl | kernel_rfl) readable rfl hW0 rfl hold⟩
theorem over : Rows.underFillsRow.holds Try.pinned (OpenSpec.ofChange Rows.underFillsSpec) :=
  OpenClaim.holds_of_wide 15 Try.f15 rfl rfl rfl rfl rfl rfl rfl ⟨rfl, rfl, rfl, rfl, rfl⟩ rfl rfl rfl rfl rfl (by kernel_rfl) Try.func15 (by kernel_rfl)
    (of_decide_eq_true (by kernel_rfl)) (by unfold Func.isWrapper; first | (rw [if_pos (by decide +kernel)]; kernel_rfl) | (rw [if_neg (by decide +kernel)]; exact ⟨rfl, rfl⟩))
    (fun os started H enc _ => lifted os started H enc)
end Go.Proofs.Ytgnndggbjipioaa.underFills
namespace Go.Proofs.Ytgnndggbjipioaa
/-- The row, for the claim. -/
theorem underFills_holds : Rows.UnderFillsSaid := underFills.over
#print axioms underFills_holds
end Go.Proofs.Ytgnndggbjipioaa
