/- What is proved here: weftlaw0.Names answers true. Every constant of package api has its number, and each error is an Errno (a closed statement; no conditions). -/
import Derived.Test.YtgnndggbjipioaaPNamesx1
namespace Go.Proofs.Ytgnndggbjipioaa.Pure
open Go.RowKit Go.Proofs.Ytgnndggbjipioaa.PNames Go.Proofs.YtgnndggbjipioaaW.PrintWords Go.Proofs.YtgnndggbjipioaaW.PrintLast

/-- YOURS: ∃ k, weftlaw0_Names.f k  = some true
What it reaches (each with k first where it has rounds; `.mono`: more rounds tell the same; `.l0`, ..: its loops, with `.mono_l`): weftlaw0_num.f, weftlaw0_errors.f, weftlaw0_errnos.f, weftlaw0_kinds.f, weftlaw0_Names.f -/
theorem Names : weftlaw0_Names.Pure := by
  exact ⟨200, by decide +kernel⟩

end Go.Proofs.Ytgnndggbjipioaa.Pure
