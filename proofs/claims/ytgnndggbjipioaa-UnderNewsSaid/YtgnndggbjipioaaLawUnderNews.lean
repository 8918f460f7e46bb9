/- The row of weftlaw18.UnderNews: nets made alike or refused, whatever the limit. No conditions. -/
import Derived.Test.YtgnndggbjipioaaAOpen
import Derived.Test.YtgnndggbjipioaaAUnders
import Derived.OpenShut
import Derived.SizedLaws
namespace Go.Proofs.Ytgnndggbjipioaa.underNews
open Go.ChangeShapes Go.WideShapes Go.ChangeAt Go.RowKit
set_option linter.unusedVariables false
theorem own : ownKnob Try.prog.godebug = none := by kernel_rfl
theorem readable : ∀ t ∈ Try.f4.params.toList, Try.prog.readableRec t = true ∧ t < Try.prog.types.size := by
  rw [Try.params4]
  intro t ht
  simp only [List.mem_cons, List.not_mem_nil, or_false] at ht
  rcases ht with rfl <;> exact ⟨by kernel_rfl, by decide +kernel⟩
set_option maxRecDepth 100000 in
theorem lifted (os : Os) (started : os.Started) (H : Type) (enc : TypeId × Value → H) :
    ReturnsInHanded {} Try.checked os 4 .any (Rows.underNewsSpec.pre6 enc Try.prog Try.f4 Rows.underNewsRow.domain false) (Rows.underNewsSpec.post enc Try.prog Try.f4 false true false false) := by
  refine returnsInHanded_of_change_sized (C := Try.checked) own started (by kernel_rfl) Try.func4
    (ChangeSpec.witness6 (enc := enc) (C := Try.checked) false ⟨#[], #[.int .i64 0], []⟩ 8 (by kernel_rfl) (by kernel_rfl) (by kernel_rfl) (by kernel_rfl)) ?_
  intro W base args ds gs before hval0 hW hcnd hsz0 _
  have hW0 := hW
  obtain ⟨p, q, hA, hV, rfl, hfz, hnd⟩ := hW
  obtain ⟨hgs, _⟩ := trodVars_none hV
  rw [Try.params4] at hA hsz0
  subst hgs
  obtain ⟨args⟩ := args
  change DataW.TrodAll enc Try.prog W 0 (fun _ => true) true [3] args ds p at hA
  obtain ⟨a0, r0, d0, e0, p0, q0, rfl, rfl, rfl, t0, hA⟩ := trodAll_cons hA
  obtain ⟨rfl, rfl, rfl⟩ := trodAll_nil hA
  have f0 := fit_each (ts := Try.f4.params.toList ++ Rows.underNewsSpec.plain.varTypes Try.prog) (by rw [Try.params4]; exact hsz0) (j := 0) (t := 3) (by rw [Try.params4]; rfl) rfl
  obtain ⟨m0, t0⟩ := t0
  have v0 := hval0 0 3 _ (by rw [Try.params4]; rfl) rfl
  obtain ⟨n0, rfl⟩ := okWide_int Try.underlying3 v0
  refine (news_any W n0).mono fun e W' ⟨he, hold⟩ => ?_
  subst he
  exact ⟨_, rfl, post_true (by first | rfl | kernel_rfl) readable rfl hW0 rfl hold⟩
theorem over : Rows.underNewsRow.holds Try.pinned (OpenSpec.ofChange Rows.underNewsSpec) :=
  OpenClaim.holds_of_wide 4 Try.f4 rfl rfl rfl rfl rfl rfl rfl ⟨rfl, rfl, rfl, rfl, rfl⟩ rfl rfl rfl rfl rfl (by kernel_rfl) Try.func4 (by kernel_rfl)
    (of_decide_eq_true (by kernel_rfl)) (by unfold Func.isWrapper; first | (rw [if_pos (by decide +kernel)]; kernel_rfl) | (rw [if_neg (by decide +kernel)]; exact ⟨rfl, rfl⟩))
    (fun os started H enc _ => lifted os started H enc)
end Go.Proofs.Ytgnndggbjipioaa.underNews
namespace Go.Proofs.Ytgnndggbjipioaa
/-- The row, for the claim. -/
theorem underNews_holds : Rows.UnderNewsSaid := underNews.over
#print axioms underNews_holds
end Go.Proofs.Ytgnndggbjipioaa
