/- The row of weftlaw18.UnderFresh, narrowed: memory, in and out: bytes handed in are neither changed nor kept, what is answered is new memory, and packets handed in always in the same places are read as they are. Conditions: the row's own (what it reads is of small bulk). -/
import Derived.Test.YtgnndggbjipioaaABulk
import Derived.Test.YtgnndggbjipioaaAFr
import Derived.OpenShut
import Derived.SizedLaws
import Derived.Deep.CondSized
namespace Go.Proofs.Ytgnndggbjipioaa.underFresh
open Go.ChangeShapes Go.WideShapes Go.ChangeAt Go.RowKit
set_option linter.unusedVariables false
theorem own : ownKnob Try.prog.godebug = none := by kernel_rfl
theorem readable : ∀ t ∈ Try.f16.params.toList, Try.prog.readableRec t = true ∧ t < Try.prog.types.size := by
  rw [Try.params16]
  intro t ht
  simp only [List.mem_cons, List.not_mem_nil, or_false] at ht
  rcases ht with rfl | rfl <;> exact ⟨by kernel_rfl, by decide +kernel⟩
set_option maxRecDepth 100000 in
theorem lifted (os : Os) (started : os.Started) (H : Type) (enc : TypeId × Value → H) (F : Stop.Interp) :
    ReturnsInHanded {} Try.checked os 16 .any ((Rows.OpenSpec.upto Rows.underFreshSpec).pre6 enc Try.prog Try.f16 Rows.underFreshUptoRow.domain false) (((Rows.OpenSpec.upto Rows.underFreshSpec).at F).post enc Try.prog Try.f16 false true false false) := by
  refine returnsInHanded_of_cond_sized (C := Try.checked) (s := Rows.OpenSpec.upto Rows.underFreshSpec) (k := Rows.uptoSmall) rfl own started (by kernel_rfl) Try.func16
    (OpenSpec.witness (enc := enc) (C := Try.checked) (s := Rows.OpenSpec.upto Rows.underFreshSpec) (k := Rows.uptoSmall) rfl false ⟨#[], #[.int .i64 0, .slice none 0 0], []⟩ 8 (by kernel_rfl) (by kernel_rfl) (by kernel_rfl)
      (x := ([.lit (.int .i64 0), .nil], [], [])) (by kernel_rfl) rfl (by kernel_rfl)) ?_
  intro W base args ds gs before hval0 hW hcnd hk hsz0 _
  have hW0 := hW
  obtain ⟨p, q, hA, hV, rfl, hfz, hnd⟩ := hW
  obtain ⟨hgs, _⟩ := trodVars_none hV
  rw [Try.params16] at hA hsz0
  subst hgs
  obtain ⟨args⟩ := args
  change DataW.TrodAll enc Try.prog W 0 (fun _ => true) true [3, 28] args ds p at hA
  obtain ⟨a0, r0, d0, e0, p0, q0, rfl, rfl, rfl, t0, hA⟩ := trodAll_cons hA
  obtain ⟨a1, r1, d1, e1, p1, q1, rfl, rfl, rfl, t1, hA⟩ := trodAll_cons hA
  obtain ⟨rfl, rfl, rfl⟩ := trodAll_nil hA
  have f1 := fit_each (ts := Try.f16.params.toList ++ (Rows.OpenSpec.upto Rows.underFreshSpec).bare.plain.varTypes Try.prog) (by rw [Try.params16]; exact hsz0) (j := 1) (t := 28) (by rw [Try.params16]; rfl) rfl
  obtain ⟨m0, t0⟩ := t0
  have v0 := hval0 0 3 _ (by rw [Try.params16]; rfl) rfl
  obtain ⟨n0, rfl⟩ := okWide_int Try.underlying3 v0
  obtain ⟨m1, t1⟩ := t1
  have v1 := hval0 1 28 _ (by rw [Try.params16]; rfl) rfl
  obtain ⟨A1, c1, l1, hs1, hc1, hO1, bl1, be1⟩ := open_ops2 t1 f1
  obtain ⟨x1, y1, z1, rfl⟩ := okWide_slice Try.underlying28 v1
  obtain ⟨hx, hy, hz⟩ : x1 = A1 ∧ y1 = l1.length ∧ z1 = c1 := by simpa [Value.cells] using hs1
  subst x1 y1 z1
  have hbulk := of_decide_eq_true hk
  simp only [List.append_nil, Rows.uptoBulkAll] at hbulk
  refine (fresh_any W _ n0 A1 c1 l1 hO1 (fun _ h => h) ⟨by dsimp only at *; omega, fun x hx => by have h := be1 x hx; dsimp only at *; exact ⟨by omega, fun r hr => by have := h.2 r hr; omega⟩⟩ (by dsimp only at *; omega)).mono fun e W' ⟨he, hold⟩ => ?_
  subst he
  exact ⟨_, rfl, post_true (by first | rfl | kernel_rfl) readable rfl hW0 rfl hold⟩
theorem over : Rows.underFreshUptoRow.holds Try.pinned (Rows.OpenSpec.upto Rows.underFreshSpec) :=
  OpenClaim.holds_of_cond 16 Try.f16 rfl rfl rfl rfl rfl rfl rfl ⟨rfl, rfl, rfl, rfl, rfl⟩ rfl rfl rfl rfl rfl (by kernel_rfl) Try.func16 (by kernel_rfl)
    (of_decide_eq_true (by kernel_rfl)) (by unfold Func.isWrapper; first | (rw [if_pos (by decide +kernel)]; kernel_rfl) | (rw [if_neg (by decide +kernel)]; exact ⟨rfl, rfl⟩))
    (fun os started H enc _ F => lifted os started H enc F)
end Go.Proofs.Ytgnndggbjipioaa.underFresh
namespace Go.Proofs.Ytgnndggbjipioaa
/-- The row, for the claim. -/
theorem underFresh_holds : Rows.UnderFreshUptoSaid := underFresh.over
#print axioms underFresh_holds
end Go.Proofs.Ytgnndggbjipioaa
