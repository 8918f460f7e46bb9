/- The row of weftlaw18.UnderOrder: packets that are put in parts and taken from the front come out in their order, whatever the input. No conditions. -/
import Derived.Test.YtgnndggbjipioaaAOpen
import Derived.Test.YtgnndggbjipioaaAOrder
import Derived.OpenShut
import Derived.SizedLaws
namespace Go.Proofs.Ytgnndggbjipioaa.underOrder
open Go.ChangeShapes Go.WideShapes Go.ChangeAt Go.RowKit
set_option linter.unusedVariables false
theorem own : ownKnob Try.prog.godebug = none := by kernel_rfl
theorem readable : ∀ t ∈ Try.f13.params.toList, Try.prog.readableRec t = true ∧ t < Try.prog.types.size := by
  rw [Try.params13]
  intro t ht
  simp only [List.mem_cons, List.not_mem_nil, or_false] at ht
  rcases ht with rfl | rfl <;> exact ⟨by kernel_rfl, by decide +kernel⟩
set_option maxRecDepth 100000 in
theorem lifted (os : Os) (started : os.Started) (H : Type) (enc : TypeId × Value → H) :
    ReturnsInHanded {} Try.checked os 13 .any (Rows.underOrderSpec.pre6 enc Try.prog Try.f13 Rows.underOrderRow.domain false) (Rows.underOrderSpec.post enc Try.prog Try.f13 false true false false) := by
  refine returnsInHanded_of_change_sized (C := Try.checked) own started (by kernel_rfl) Try.func13
    (ChangeSpec.witness6 (enc := enc) (C := Try.checked) false ⟨#[], #[.slice none 0 0, .slice none 0 0], []⟩ 8 (by kernel_rfl) (by kernel_rfl) (by kernel_rfl) (by kernel_rfl)) ?_
  intro W base args ds gs before hval0 hW hcnd hsz0 _
  have hW0 := hW
  obtain ⟨p, q, hA, hV, rfl, hfz, hnd⟩ := hW
  obtain ⟨hgs, _⟩ := trodVars_none hV
  rw [Try.params13] at hA hsz0
  subst hgs
  obtain ⟨args⟩ := args
  change DataW.TrodAll enc Try.prog W 0 (fun _ => true) true [34, 54] args ds p at hA
  obtain ⟨a0, r0, d0, e0, p0, q0, rfl, rfl, rfl, t0, hA⟩ := trodAll_cons hA
  obtain ⟨a1, r1, d1, e1, p1, q1, rfl, rfl, rfl, t1, hA⟩ := trodAll_cons hA
  obtain ⟨rfl, rfl, rfl⟩ := trodAll_nil hA
  have f0 := fit_each (ts := Try.f13.params.toList ++ Rows.underOrderSpec.plain.varTypes Try.prog) (by rw [Try.params13]; exact hsz0) (j := 0) (t := 34) (by rw [Try.params13]; rfl) rfl
  have f1 := fit_each (ts := Try.f13.params.toList ++ Rows.underOrderSpec.plain.varTypes Try.prog) (by rw [Try.params13]; exact hsz0) (j := 1) (t := 54) (by rw [Try.params13]; rfl) rfl
  obtain ⟨m0, t0⟩ := t0
  have v0 := hval0 0 34 _ (by rw [Try.params13]; rfl) rfl
  obtain ⟨A0, c0, l0, hs0, hc0, hO0⟩ := open_pks t0 f0
  obtain ⟨x0, y0, z0, rfl⟩ := okWide_slice Try.underlying34 v0
  obtain ⟨hx, hy, hz⟩ : x0 = A0 ∧ y0 = l0.length ∧ z0 = c0 := by simpa [Value.cells] using hs0
  subst x0 y0 z0
  obtain ⟨m1, t1⟩ := t1
  have v1 := hval0 1 54 _ (by rw [Try.params13]; rfl) rfl
  obtain ⟨A1, c1, l1, hs1, hc1, hO1⟩ := open_nums t1 f1
  obtain ⟨x1, y1, z1, rfl⟩ := okWide_slice Try.underlying54 v1
  obtain ⟨hx, hy, hz⟩ : x1 = A1 ∧ y1 = l1.length ∧ z1 = c1 := by simpa [Value.cells] using hs1
  subst x1 y1 z1
  refine (order_any W _ A0 A1 c0 c1 l0 l1 hO0 hO1 hc0 (fun _ h => h)).mono fun e W' ⟨he, hold⟩ => ?_
  subst he
  exact ⟨_, rfl, post_true (by first | rfl | kernel_rfl) readable rfl hW0 rfl hold⟩
theorem over : Rows.underOrderRow.holds Try.pinned (OpenSpec.ofChange Rows.underOrderSpec) :=
  OpenClaim.holds_of_wide 13 Try.f13 rfl rfl rfl rfl rfl rfl rfl ⟨rfl, rfl, rfl, rfl, rfl⟩ rfl rfl rfl rfl rfl (by kernel_rfl) Try.func13 (by kernel_rfl)
    (of_decide_eq_true (by kernel_rfl)) (by unfold Func.isWrapper; first | (rw [if_pos (by decide +kernel)]; kernel_rfl) | (rw [if_neg (by decide +kernel)]; exact ⟨rfl, rfl⟩))
    (fun os started H enc _ => lifted os started H enc)
end Go.Proofs.Ytgnndggbjipioaa.underOrder
namespace Go.Proofs.Ytgnndggbjipioaa
/-- The row, for the claim. -/
theorem underOrder_holds : Rows.UnderOrderSaid := underOrder.over
#print axioms underOrder_holds
end Go.Proofs.Ytgnndggbjipioaa
