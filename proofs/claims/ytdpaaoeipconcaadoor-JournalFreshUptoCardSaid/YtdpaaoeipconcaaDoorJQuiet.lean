/- A region that draws its order and whose operations each yield one value in every world of a class: one walk, in the order of the text (over the library's wp_region_quiet). Plain laws. -/
import Derived.Test.YtdpaaoeipconcaaDoorMPlan
namespace Go.Proofs.YtdpaaoeipconcaaDoor
open Go.RowKit
section
variable {P : Program} {ops : Array Oper} {C : World → Prop} {Q : Act → Prop} {a : Act} {o : Oper} {rest : List Oper}

theorem wq_take {v : Value} (hw : Region.wanted o (yielded ops a.tmps) = true) (hy : ∀ w', C w' → (execOp a.eval o).run P w' = .ok (.value v) w') (h : wpQuiet P ops C Q rest (a.put o.dst v)) : wpQuiet P ops C Q (o :: rest) a := by
  show if _ then _ else _
  rw [if_pos hw]
  refine ⟨v, fun w' hC => ?_, h⟩
  unfold Oper.quietAt
  rw [hy w' hC]
  exact ⟨rfl, rfl⟩
theorem wq_call {v : Value} {f : FuncId} {args : Array Value} (hw : Region.wanted o (yielded ops a.tmps) = true) (hy : ∀ w', C w' → (execOp a.eval o).run P w' = .ok (.enter f args) w')
    (hc : ∀ w', C w' → Calls P f args w' fun e w'' => e = .returned v ∧ C w'') (h : wpQuiet P ops C Q rest (a.put o.dst v)) : wpQuiet P ops C Q (o :: rest) a := by
  show if _ then _ else _
  rw [if_pos hw]
  refine ⟨v, fun w' hC => ?_, h⟩
  unfold Oper.quietAt
  rw [hy w' hC]
  exact ⟨rfl, hc w' hC⟩
theorem wq_pass (hw : Region.wanted o (yielded ops a.tmps) = false) (h : wpQuiet P ops C Q rest (a.put o.dst undef)) : wpQuiet P ops C Q (o :: rest) a := by
  show if _ then _ else _
  rw [if_neg (by rw [hw]; exact Bool.false_ne_true)]
  exact h
end
end Go.Proofs.YtdpaaoeipconcaaDoor
