/- The row of weftlaw18.UnderSpoilTwice: the same Spoil again undoes it, and a copy made between keeps what it was made of, whatever the input. No conditions. -/
import Derived.Test.YtgnndggbjipioaaAOpen
import Derived.Test.YtgnndggbjipioaaASpoil
import Derived.OpenShut
import Derived.SizedLaws
namespace Go.Proofs.Ytgnndggbjipioaa.underSpoilTwice
open Go.ChangeShapes Go.WideShapes Go.ChangeAt Go.RowKit
set_option linter.unusedVariables false
theorem own : ownKnob Try.prog.godebug = none := by kernel_rfl
theorem readable : ∀ t ∈ Try.f14.params.toList, Try.prog.readableRec t = true ∧ t < Try.prog.types.size := by
  rw [Try.params14]
  intro t ht
  simp only [List.mem_cons, List.not_mem_nil, or_false] at ht
  rcases ht with rfl | rfl | rfl <;> exact ⟨by kernel_rfl, by decide +kernel⟩
set_option maxRecDepth 100000 in
theorem lifted (os : Os) (started : os.Started) (H : Type) (enc : TypeId × Value → H) :
    ReturnsInHanded {} Try.checked os 14 .any (Rows.underSpoilTwiceSpec.pre6 enc Try.prog Try.f14 Rows.underSpoilTwiceRow.domain false) (Rows.underSpoilTwiceSpec.post enc Try.prog Try.f14 false true false false) := by
  refine returnsInHanded_of_change_sized (C := Try.checked) own started (by kernel_rfl) Try.func14
    (ChangeSpec.witness6 (enc := enc) (C := Try.checked) false ⟨#[], #[.agg #[.int .u32 0, .slice none 0 0], .int .i64 0, .int .u8 0], []⟩ 8 (by kernel_rfl) (by kernel_rfl) (by kernel_rfl) (by kernel_rfl)) ?_
  intro W base args ds gs before hval0 hW hcnd hsz0 _
  have hW0 := hW
  obtain ⟨p, q, hA, hV, rfl, hfz, hnd⟩ := hW
  obtain ⟨hgs, _⟩ := trodVars_none hV
  rw [Try.params14] at hA hsz0
  subst hgs
  obtain ⟨args⟩ := args
  change DataW.TrodAll enc Try.prog W 0 (fun _ => true) true [48, 3, 5] args ds p at hA
  obtain ⟨a0, r0, d0, e0, p0, q0, rfl, rfl, rfl, t0, hA⟩ := trodAll_cons hA
  obtain ⟨a1, r1, d1, e1, p1, q1, rfl, rfl, rfl, t1, hA⟩ := trodAll_cons hA
  obtain ⟨a2, r2, d2, e2, p2, q2, rfl, rfl, rfl, t2, hA⟩ := trodAll_cons hA
  obtain ⟨rfl, rfl, rfl⟩ := trodAll_nil hA
  have f0 := fit_each (ts := Try.f14.params.toList ++ Rows.underSpoilTwiceSpec.plain.varTypes Try.prog) (by rw [Try.params14]; exact hsz0) (j := 0) (t := 48) (by rw [Try.params14]; rfl) rfl
  have f1 := fit_each (ts := Try.f14.params.toList ++ Rows.underSpoilTwiceSpec.plain.varTypes Try.prog) (by rw [Try.params14]; exact hsz0) (j := 1) (t := 3) (by rw [Try.params14]; rfl) rfl
  have f2 := fit_each (ts := Try.f14.params.toList ++ Rows.underSpoilTwiceSpec.plain.varTypes Try.prog) (by rw [Try.params14]; exact hsz0) (j := 2) (t := 5) (by rw [Try.params14]; rfl) rfl
  obtain ⟨m0, t0⟩ := t0
  have v0 := hval0 0 48 _ (by rw [Try.params14]; rfl) rfl
  obtain ⟨cells0, rfl, hcs0⟩ := okWide_struct Try.underlying48 v0
  obtain ⟨cells0⟩ := cells0
  obtain ⟨n0, A0, c0, l0, hk0, hc0, hB0⟩ := open_pk t0 f0
  obtain rfl : cells0 = _ := hk0
  obtain ⟨m1, t1⟩ := t1
  have v1 := hval0 1 3 _ (by rw [Try.params14]; rfl) rfl
  obtain ⟨n1, rfl⟩ := okWide_int Try.underlying3 v1
  obtain ⟨nb1, hb1, _, hw1⟩ := DataW.trod_int Try.underlying3 t1
  obtain rfl : n1 = nb1 := by injection hb1 with hb; injection hb
  simp only [Lit.wf, Bool.and_eq_true, decide_eq_true_eq] at hw1
  have lo1 : -9223372036854775808 ≤ n1 := hw1.1
  have hi1 : n1 < 9223372036854775808 := by have h : n1 ≤ 9223372036854775807 := hw1.2; omega
  obtain ⟨m2, t2⟩ := t2
  have v2 := hval0 2 5 _ (by rw [Try.params14]; rfl) rfl
  obtain ⟨z2, rfl⟩ := okWide_int Try.underlying5 v2
  obtain ⟨n2, hu2⟩ := open_u8 t2
  obtain rfl : z2 = (n2.toNat : Int) := by injection hu2 with hu; injection hu
  refine (spoilTwice_any W _ n0 A0 c0 l0 n1 n2 hB0 hc0 (fun _ h => h) lo1 hi1).mono fun e W' ⟨he, hold⟩ => ?_
  subst he
  exact ⟨_, rfl, post_true (by first | rfl | kernel_rfl) readable rfl hW0 rfl hold⟩
theorem over : Rows.underSpoilTwiceRow.holds Try.pinned (OpenSpec.ofChange Rows.underSpoilTwiceSpec) :=
  OpenClaim.holds_of_wide 14 Try.f14 rfl rfl rfl rfl rfl rfl rfl ⟨rfl, rfl, rfl, rfl, rfl⟩ rfl rfl rfl rfl rfl (by kernel_rfl) Try.func14 (by kernel_rfl)
    (of_decide_eq_true (by kernel_rfl)) (by unfold Func.isWrapper; first | (rw [if_pos (by decide +kernel)]; kernel_rfl) | (rw [if_neg (by decide +kernel)]; exact ⟨rfl, rfl⟩))
    (fun os started H enc _ => lifted os started H enc)
end Go.Proofs.Ytgnndggbjipioaa.underSpoilTwice
namespace Go.Proofs.Ytgnndggbjipioaa
/-- The row, for the claim. -/
theorem underSpoilTwice_holds : Rows.UnderSpoilTwiceSaid := underSpoilTwice.over
#print axioms underSpoilTwice_holds
end Go.Proofs.Ytgnndggbjipioaa
