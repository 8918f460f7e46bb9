/- The row of weftlaw18.UnderTwo: two pairs of nets that take turns, whatever the input. No conditions. -/
import Derived.Test.YtgnndggbjipioaaAOpen
import Derived.Test.YtgnndggbjipioaaATwo
import Derived.OpenShut
import Derived.SizedLaws
namespace Go.Proofs.Ytgnndggbjipioaa.underTwo
open Go.ChangeShapes Go.WideShapes Go.ChangeAt Go.RowKit
set_option linter.unusedVariables false
theorem own : ownKnob Try.prog.godebug = none := by kernel_rfl
theorem readable : ∀ t ∈ Try.f10.params.toList, Try.prog.readableRec t = true ∧ t < Try.prog.types.size := by
  rw [Try.params10]
  intro t ht
  simp only [List.mem_cons, List.not_mem_nil, or_false] at ht
  rcases ht with rfl | rfl | rfl | rfl <;> exact ⟨by kernel_rfl, by decide +kernel⟩
set_option maxRecDepth 100000 in
theorem lifted (os : Os) (started : os.Started) (H : Type) (enc : TypeId × Value → H) :
    ReturnsInHanded {} Try.checked os 10 .any (Rows.underTwoSpec.pre6 enc Try.prog Try.f10 Rows.underTwoRow.domain false) (Rows.underTwoSpec.post enc Try.prog Try.f10 false true false false) := by
  refine returnsInHanded_of_change_sized (C := Try.checked) own started (by kernel_rfl) Try.func10
    (ChangeSpec.witness6 (enc := enc) (C := Try.checked) false ⟨#[], #[.int .i64 0, .int .i64 0, .slice none 0 0, .slice none 0 0], []⟩ 8 (by kernel_rfl) (by kernel_rfl) (by kernel_rfl) (by kernel_rfl)) ?_
  intro W base args ds gs before hval0 hW hcnd hsz0 _
  have hW0 := hW
  obtain ⟨p, q, hA, hV, rfl, hfz, hnd⟩ := hW
  obtain ⟨hgs, _⟩ := trodVars_none hV
  rw [Try.params10] at hA hsz0
  subst hgs
  obtain ⟨args⟩ := args
  change DataW.TrodAll enc Try.prog W 0 (fun _ => true) true [3, 3, 28, 31] args ds p at hA
  obtain ⟨a0, r0, d0, e0, p0, q0, rfl, rfl, rfl, t0, hA⟩ := trodAll_cons hA
  obtain ⟨a1, r1, d1, e1, p1, q1, rfl, rfl, rfl, t1, hA⟩ := trodAll_cons hA
  obtain ⟨a2, r2, d2, e2, p2, q2, rfl, rfl, rfl, t2, hA⟩ := trodAll_cons hA
  obtain ⟨a3, r3, d3, e3, p3, q3, rfl, rfl, rfl, t3, hA⟩ := trodAll_cons hA
  obtain ⟨rfl, rfl, rfl⟩ := trodAll_nil hA
  have f0 := fit_each (ts := Try.f10.params.toList ++ Rows.underTwoSpec.plain.varTypes Try.prog) (by rw [Try.params10]; exact hsz0) (j := 0) (t := 3) (by rw [Try.params10]; rfl) rfl
  have f1 := fit_each (ts := Try.f10.params.toList ++ Rows.underTwoSpec.plain.varTypes Try.prog) (by rw [Try.params10]; exact hsz0) (j := 1) (t := 3) (by rw [Try.params10]; rfl) rfl
  have f2 := fit_each (ts := Try.f10.params.toList ++ Rows.underTwoSpec.plain.varTypes Try.prog) (by rw [Try.params10]; exact hsz0) (j := 2) (t := 28) (by rw [Try.params10]; rfl) rfl
  have f3 := fit_each (ts := Try.f10.params.toList ++ Rows.underTwoSpec.plain.varTypes Try.prog) (by rw [Try.params10]; exact hsz0) (j := 3) (t := 31) (by rw [Try.params10]; rfl) rfl
  obtain ⟨m0, t0⟩ := t0
  have v0 := hval0 0 3 _ (by rw [Try.params10]; rfl) rfl
  obtain ⟨n0, rfl⟩ := okWide_int Try.underlying3 v0
  obtain ⟨m1, t1⟩ := t1
  have v1 := hval0 1 3 _ (by rw [Try.params10]; rfl) rfl
  obtain ⟨n1, rfl⟩ := okWide_int Try.underlying3 v1
  obtain ⟨m2, t2⟩ := t2
  have v2 := hval0 2 28 _ (by rw [Try.params10]; rfl) rfl
  obtain ⟨A2, c2, l2, hs2, hc2, hO2⟩ := open_ops t2 f2
  obtain ⟨x2, y2, z2, rfl⟩ := okWide_slice Try.underlying28 v2
  obtain ⟨hx, hy, hz⟩ : x2 = A2 ∧ y2 = l2.length ∧ z2 = c2 := by simpa [Value.cells] using hs2
  subst x2 y2 z2
  obtain ⟨m3, t3⟩ := t3
  have v3 := hval0 3 31 _ (by rw [Try.params10]; rfl) rfl
  obtain ⟨A3, c3, l3, hs3, hc3, hO3⟩ := open_bools t3 f3
  obtain ⟨x3, y3, z3, rfl⟩ := okWide_slice Try.underlying31 v3
  obtain ⟨hx, hy, hz⟩ : x3 = A3 ∧ y3 = l3.length ∧ z3 = c3 := by simpa [Value.cells] using hs3
  subst x3 y3 z3
  refine (two_any W _ n0 n1 A2 A3 c2 c3 l2 l3 hO2 hO3 (fun _ h => h)).mono fun e W' ⟨he, hold⟩ => ?_
  subst he
  exact ⟨_, rfl, post_true (by first | rfl | kernel_rfl) readable rfl hW0 rfl hold⟩
theorem over : Rows.underTwoRow.holds Try.pinned (OpenSpec.ofChange Rows.underTwoSpec) :=
  OpenClaim.holds_of_wide 10 Try.f10 rfl rfl rfl rfl rfl rfl rfl ⟨rfl, rfl, rfl, rfl, rfl⟩ rfl rfl rfl rfl rfl (by kernel_rfl) Try.func10 (by kernel_rfl)
    (of_decide_eq_true (by kernel_rfl)) (by unfold Func.isWrapper; first | (rw [if_pos (by decide +kernel)]; kernel_rfl) | (rw [if_neg (by decide +kernel)]; exact ⟨rfl, rfl⟩))
    (fun os started H enc _ => lifted os started H enc)
end Go.Proofs.Ytgnndggbjipioaa.underTwo
namespace Go.Proofs.Ytgnndggbjipioaa
/-- The row, for the claim. -/
theorem underTwo_holds : Rows.UnderTwoSaid := underTwo.over
#print axioms underTwo_holds
end Go.Proofs.Ytgnndggbjipioaa
