/-
  DERIVED. GIVEN WITH THE SEED: THE CARDS: each row of YtdpaaoeipconcaaDoorRows.lean that lists a variable, with what it lists TIED to the program's text (the seventh form; the later family's looks); each row that meets fmt, with fmt's text TOLD by the authors' own Lean function (tested against real Go, not proved from fmt's source: count such statements apart). THE CARD IS WHAT COUNTS. Prove the row's statement (the work); the ties are given (YtdpaaoeipconcaaDoorTie.lean); close each card by the builder's one call (the guide's Derived/Test/ToyasCard.lean, 'card_holds'). Laid BY PROGRAM, IN A SANDBOX (cutbox-door.mjs). By AI agents, Wed Nov 11 2026. No macro, syntax, notation, axiom, sorry.
-/
import Derived.Test.YtdpaaoeipconcaaDoorRows
import GoSem.ClaimSeven
namespace Go.Proofs.YtdpaaoeipconcaaDoor
namespace Rows

/-- THE TIED CARD OF 'weftlaw12.JournalOpens'. -/
def journalOpensCard : Claim7 := { stood := { row := journalOpensRow, standIns := [], harness := (true, "86233f32ae892ade2e20b5a4382e68f56eb3959cf9e2810c988c710a52da0fea"), looks := false }, kinds := [], alts := [], laidByText := true, laidKinds := [.data], laidTests := true, laidLooks := .later }
def JournalOpensCardSaid : Prop := Claim7.holds Tryd.pinned (.plain (OpenSpec.ofChange journalOpensSpec)) journalOpensCard

/-- THE TIED CARD OF 'weftlaw12.JournalOrdered'. -/
def journalOrderedCard : Claim7 := { stood := { row := journalOrderedRow, standIns := [], harness := (true, "86233f32ae892ade2e20b5a4382e68f56eb3959cf9e2810c988c710a52da0fea"), looks := false }, kinds := [], alts := [], laidByText := true, laidKinds := [.data], laidTests := true, laidLooks := .later }
def JournalOrderedCardSaid : Prop := Claim7.holds Tryd.pinned (.plain (OpenSpec.ofChange journalOrderedSpec)) journalOrderedCard

/-- THE TIED CARD OF 'weftlaw12.JournalWrites'. -/
def journalWritesCard : Claim7 := { stood := { row := journalWritesRow, standIns := [], harness := (true, "86233f32ae892ade2e20b5a4382e68f56eb3959cf9e2810c988c710a52da0fea"), looks := false }, kinds := [], alts := [], laidByText := true, laidKinds := [.data], laidTests := true, laidLooks := .later }
def JournalWritesCardSaid : Prop := Claim7.holds Tryd.pinned (.plain (OpenSpec.ofChange journalWritesSpec)) journalWritesCard

/-- THE TIED CARD OF 'weftlaw12.JournalNumbers'. -/
def journalNumbersCard : Claim7 := { stood := { row := journalNumbersRow, standIns := [], harness := (true, "86233f32ae892ade2e20b5a4382e68f56eb3959cf9e2810c988c710a52da0fea"), looks := false }, kinds := [], alts := [], laidByText := true, laidKinds := [.data], laidTests := true, laidLooks := .later }
def JournalNumbersCardSaid : Prop := Claim7.holds Tryd.pinned (.plain (OpenSpec.ofChange journalNumbersSpec)) journalNumbersCard

/-- THE TIED CARD OF 'weftlaw12.JournalCrashes'. -/
def journalCrashesCard : Claim7 := { stood := { row := journalCrashesRow, standIns := [], harness := (true, "86233f32ae892ade2e20b5a4382e68f56eb3959cf9e2810c988c710a52da0fea"), looks := false }, kinds := [], alts := [], laidByText := true, laidKinds := [.data], laidTests := true, laidLooks := .later }
def JournalCrashesCardSaid : Prop := Claim7.holds Tryd.pinned (.plain (OpenSpec.ofChange journalCrashesSpec)) journalCrashesCard

/-- THE TIED CARD OF 'weftlaw12.JournalReopens'. -/
def journalReopensCard : Claim7 := { stood := { row := journalReopensRow, standIns := [], harness := (true, "86233f32ae892ade2e20b5a4382e68f56eb3959cf9e2810c988c710a52da0fea"), looks := false }, kinds := [], alts := [], laidByText := true, laidKinds := [.data], laidTests := true, laidLooks := .later }
def JournalReopensCardSaid : Prop := Claim7.holds Tryd.pinned (.plain (OpenSpec.ofChange journalReopensSpec)) journalReopensCard

/-- THE TIED CARD OF 'weftlaw12.JournalAll'. -/
def journalAllCard : Claim7 := { stood := { row := journalAllRow, standIns := [], harness := (true, "86233f32ae892ade2e20b5a4382e68f56eb3959cf9e2810c988c710a52da0fea"), looks := false }, kinds := [], alts := [], laidByText := true, laidKinds := [.data], laidTests := true, laidLooks := .later }
def JournalAllCardSaid : Prop := Claim7.holds Tryd.pinned (.plain (OpenSpec.ofChange journalAllSpec)) journalAllCard

/-- THE TIED CARD OF 'weftlaw12.JournalTwo'. -/
def journalTwoCard : Claim7 := { stood := { row := journalTwoRow, standIns := [], harness := (true, "86233f32ae892ade2e20b5a4382e68f56eb3959cf9e2810c988c710a52da0fea"), looks := false }, kinds := [], alts := [], laidByText := true, laidKinds := [.data], laidTests := true, laidLooks := .later }
def JournalTwoCardSaid : Prop := Claim7.holds Tryd.pinned (.plain (OpenSpec.ofChange journalTwoSpec)) journalTwoCard

/-- THE TIED CARD OF 'weftlaw12.JournalRecovers'. -/
def journalRecoversCard : Claim7 := { stood := { row := journalRecoversRow, standIns := [], harness := (true, "86233f32ae892ade2e20b5a4382e68f56eb3959cf9e2810c988c710a52da0fea"), looks := false }, kinds := [], alts := [], laidByText := true, laidKinds := [.data], laidTests := true, laidLooks := .later }
def JournalRecoversCardSaid : Prop := Claim7.holds Tryd.pinned (.plain (OpenSpec.ofChange journalRecoversSpec)) journalRecoversCard

/-- THE TIED CARD OF 'weftlaw12.JournalAtomic'. -/
def journalAtomicCard : Claim7 := { stood := { row := journalAtomicRow, standIns := [], harness := (true, "86233f32ae892ade2e20b5a4382e68f56eb3959cf9e2810c988c710a52da0fea"), looks := false }, kinds := [], alts := [], laidByText := true, laidKinds := [.data], laidTests := true, laidLooks := .later }
def JournalAtomicCardSaid : Prop := Claim7.holds Tryd.pinned (.plain (OpenSpec.ofChange journalAtomicSpec)) journalAtomicCard

/-- THE TIED CARD OF 'weftlaw12.JournalDamage'. -/
def journalDamageCard : Claim7 := { stood := { row := journalDamageRow, standIns := [], harness := (true, "86233f32ae892ade2e20b5a4382e68f56eb3959cf9e2810c988c710a52da0fea"), looks := false }, kinds := [], alts := [], laidByText := true, laidKinds := [.data], laidTests := true, laidLooks := .later }
def JournalDamageCardSaid : Prop := Claim7.holds Tryd.pinned (.plain (OpenSpec.ofChange journalDamageSpec)) journalDamageCard

/-- THE TIED CARD OF 'weftlaw12.JournalCut'. -/
def journalCutCard : Claim7 := { stood := { row := journalCutRow, standIns := [], harness := (true, "86233f32ae892ade2e20b5a4382e68f56eb3959cf9e2810c988c710a52da0fea"), looks := false }, kinds := [], alts := [], laidByText := true, laidKinds := [.data], laidTests := true, laidLooks := .later }
def JournalCutCardSaid : Prop := Claim7.holds Tryd.pinned (.plain (OpenSpec.ofChange journalCutSpec)) journalCutCard

/-- THE TIED CARD OF 'weftlaw12.JournalSerial'. -/
def journalSerialCard : Claim7 := { stood := { row := journalSerialRow, standIns := [], harness := (true, "86233f32ae892ade2e20b5a4382e68f56eb3959cf9e2810c988c710a52da0fea"), looks := false }, kinds := [], alts := [], laidByText := true, laidKinds := [.data], laidTests := true, laidLooks := .later }
def JournalSerialCardSaid : Prop := Claim7.holds Tryd.pinned (.plain (OpenSpec.ofChange journalSerialSpec)) journalSerialCard

/-- THE TIED CARD OF 'weftlaw12.JournalFills'. -/
def journalFillsCard : Claim7 := { stood := { row := journalFillsRow, standIns := [], harness := (true, "86233f32ae892ade2e20b5a4382e68f56eb3959cf9e2810c988c710a52da0fea"), looks := false }, kinds := [], alts := [], laidByText := true, laidKinds := [.data], laidTests := true, laidLooks := .later }
def JournalFillsCardSaid : Prop := Claim7.holds Tryd.pinned (.plain (OpenSpec.ofChange journalFillsSpec)) journalFillsCard

/-- THE TIED CARD OF 'weftlaw12.JournalFresh'. -/
def journalFreshCard : Claim7 := { stood := { row := journalFreshRow, standIns := [], harness := (true, "86233f32ae892ade2e20b5a4382e68f56eb3959cf9e2810c988c710a52da0fea"), looks := false }, kinds := [], alts := [], laidByText := true, laidKinds := [.data], laidTests := true, laidLooks := .later }
def JournalFreshCardSaid : Prop := Claim7.holds Tryd.pinned (.plain (OpenSpec.ofChange journalFreshSpec)) journalFreshCard

/-- THE SECOND FORM's CARD OF 'weftlaw12.JournalOpens'. -/
def journalOpensUptoCard : Claim7 := { stood := { row := journalOpensUptoRow, standIns := [], harness := (true, "86233f32ae892ade2e20b5a4382e68f56eb3959cf9e2810c988c710a52da0fea"), looks := false }, kinds := [], alts := [], laidByText := true, laidKinds := [.data], laidTests := true, laidLooks := .later }
def JournalOpensUptoCardSaid : Prop := Claim7.holds Tryd.pinned (.plain (OpenSpec.upto journalOpensSpec)) journalOpensUptoCard

/-- THE SECOND FORM's CARD OF 'weftlaw12.JournalOrdered'. -/
def journalOrderedUptoCard : Claim7 := { stood := { row := journalOrderedUptoRow, standIns := [], harness := (true, "86233f32ae892ade2e20b5a4382e68f56eb3959cf9e2810c988c710a52da0fea"), looks := false }, kinds := [], alts := [], laidByText := true, laidKinds := [.data], laidTests := true, laidLooks := .later }
def JournalOrderedUptoCardSaid : Prop := Claim7.holds Tryd.pinned (.plain (OpenSpec.upto journalOrderedSpec)) journalOrderedUptoCard

/-- THE SECOND FORM's CARD OF 'weftlaw12.JournalWrites'. -/
def journalWritesUptoCard : Claim7 := { stood := { row := journalWritesUptoRow, standIns := [], harness := (true, "86233f32ae892ade2e20b5a4382e68f56eb3959cf9e2810c988c710a52da0fea"), looks := false }, kinds := [], alts := [], laidByText := true, laidKinds := [.data], laidTests := true, laidLooks := .later }
def JournalWritesUptoCardSaid : Prop := Claim7.holds Tryd.pinned (.plain (OpenSpec.upto journalWritesSpec)) journalWritesUptoCard

/-- THE SECOND FORM's CARD OF 'weftlaw12.JournalNumbers'. -/
def journalNumbersUptoCard : Claim7 := { stood := { row := journalNumbersUptoRow, standIns := [], harness := (true, "86233f32ae892ade2e20b5a4382e68f56eb3959cf9e2810c988c710a52da0fea"), looks := false }, kinds := [], alts := [], laidByText := true, laidKinds := [.data], laidTests := true, laidLooks := .later }
def JournalNumbersUptoCardSaid : Prop := Claim7.holds Tryd.pinned (.plain (OpenSpec.upto journalNumbersSpec)) journalNumbersUptoCard

/-- THE SECOND FORM's CARD OF 'weftlaw12.JournalCrashes'. -/
def journalCrashesUptoCard : Claim7 := { stood := { row := journalCrashesUptoRow, standIns := [], harness := (true, "86233f32ae892ade2e20b5a4382e68f56eb3959cf9e2810c988c710a52da0fea"), looks := false }, kinds := [], alts := [], laidByText := true, laidKinds := [.data], laidTests := true, laidLooks := .later }
def JournalCrashesUptoCardSaid : Prop := Claim7.holds Tryd.pinned (.plain (OpenSpec.upto journalCrashesSpec)) journalCrashesUptoCard

/-- THE SECOND FORM's CARD OF 'weftlaw12.JournalReopens'. -/
def journalReopensUptoCard : Claim7 := { stood := { row := journalReopensUptoRow, standIns := [], harness := (true, "86233f32ae892ade2e20b5a4382e68f56eb3959cf9e2810c988c710a52da0fea"), looks := false }, kinds := [], alts := [], laidByText := true, laidKinds := [.data], laidTests := true, laidLooks := .later }
def JournalReopensUptoCardSaid : Prop := Claim7.holds Tryd.pinned (.plain (OpenSpec.upto journalReopensSpec)) journalReopensUptoCard

/-- THE SECOND FORM's CARD OF 'weftlaw12.JournalAll'. -/
def journalAllUptoCard : Claim7 := { stood := { row := journalAllUptoRow, standIns := [], harness := (true, "86233f32ae892ade2e20b5a4382e68f56eb3959cf9e2810c988c710a52da0fea"), looks := false }, kinds := [], alts := [], laidByText := true, laidKinds := [.data], laidTests := true, laidLooks := .later }
def JournalAllUptoCardSaid : Prop := Claim7.holds Tryd.pinned (.plain (OpenSpec.upto journalAllSpec)) journalAllUptoCard

/-- THE SECOND FORM's CARD OF 'weftlaw12.JournalTwo'. -/
def journalTwoUptoCard : Claim7 := { stood := { row := journalTwoUptoRow, standIns := [], harness := (true, "86233f32ae892ade2e20b5a4382e68f56eb3959cf9e2810c988c710a52da0fea"), looks := false }, kinds := [], alts := [], laidByText := true, laidKinds := [.data], laidTests := true, laidLooks := .later }
def JournalTwoUptoCardSaid : Prop := Claim7.holds Tryd.pinned (.plain (OpenSpec.upto journalTwoSpec)) journalTwoUptoCard

/-- THE SECOND FORM's CARD OF 'weftlaw12.JournalRecovers'. -/
def journalRecoversUptoCard : Claim7 := { stood := { row := journalRecoversUptoRow, standIns := [], harness := (true, "86233f32ae892ade2e20b5a4382e68f56eb3959cf9e2810c988c710a52da0fea"), looks := false }, kinds := [], alts := [], laidByText := true, laidKinds := [.data], laidTests := true, laidLooks := .later }
def JournalRecoversUptoCardSaid : Prop := Claim7.holds Tryd.pinned (.plain (OpenSpec.upto journalRecoversSpec)) journalRecoversUptoCard

/-- THE SECOND FORM's CARD OF 'weftlaw12.JournalAtomic'. -/
def journalAtomicUptoCard : Claim7 := { stood := { row := journalAtomicUptoRow, standIns := [], harness := (true, "86233f32ae892ade2e20b5a4382e68f56eb3959cf9e2810c988c710a52da0fea"), looks := false }, kinds := [], alts := [], laidByText := true, laidKinds := [.data], laidTests := true, laidLooks := .later }
def JournalAtomicUptoCardSaid : Prop := Claim7.holds Tryd.pinned (.plain (OpenSpec.upto journalAtomicSpec)) journalAtomicUptoCard

/-- THE SECOND FORM's CARD OF 'weftlaw12.JournalDamage'. -/
def journalDamageUptoCard : Claim7 := { stood := { row := journalDamageUptoRow, standIns := [], harness := (true, "86233f32ae892ade2e20b5a4382e68f56eb3959cf9e2810c988c710a52da0fea"), looks := false }, kinds := [], alts := [], laidByText := true, laidKinds := [.data], laidTests := true, laidLooks := .later }
def JournalDamageUptoCardSaid : Prop := Claim7.holds Tryd.pinned (.plain (OpenSpec.upto journalDamageSpec)) journalDamageUptoCard

/-- THE SECOND FORM's CARD OF 'weftlaw12.JournalCut'. -/
def journalCutUptoCard : Claim7 := { stood := { row := journalCutUptoRow, standIns := [], harness := (true, "86233f32ae892ade2e20b5a4382e68f56eb3959cf9e2810c988c710a52da0fea"), looks := false }, kinds := [], alts := [], laidByText := true, laidKinds := [.data], laidTests := true, laidLooks := .later }
def JournalCutUptoCardSaid : Prop := Claim7.holds Tryd.pinned (.plain (OpenSpec.upto journalCutSpec)) journalCutUptoCard

/-- THE SECOND FORM's CARD OF 'weftlaw12.JournalSerial'. -/
def journalSerialUptoCard : Claim7 := { stood := { row := journalSerialUptoRow, standIns := [], harness := (true, "86233f32ae892ade2e20b5a4382e68f56eb3959cf9e2810c988c710a52da0fea"), looks := false }, kinds := [], alts := [], laidByText := true, laidKinds := [.data], laidTests := true, laidLooks := .later }
def JournalSerialUptoCardSaid : Prop := Claim7.holds Tryd.pinned (.plain (OpenSpec.upto journalSerialSpec)) journalSerialUptoCard

/-- THE SECOND FORM's CARD OF 'weftlaw12.JournalFills'. -/
def journalFillsUptoCard : Claim7 := { stood := { row := journalFillsUptoRow, standIns := [], harness := (true, "86233f32ae892ade2e20b5a4382e68f56eb3959cf9e2810c988c710a52da0fea"), looks := false }, kinds := [], alts := [], laidByText := true, laidKinds := [.data], laidTests := true, laidLooks := .later }
def JournalFillsUptoCardSaid : Prop := Claim7.holds Tryd.pinned (.plain (OpenSpec.upto journalFillsSpec)) journalFillsUptoCard

/-- THE SECOND FORM's CARD OF 'weftlaw12.JournalFresh'. -/
def journalFreshUptoCard : Claim7 := { stood := { row := journalFreshUptoRow, standIns := [], harness := (true, "86233f32ae892ade2e20b5a4382e68f56eb3959cf9e2810c988c710a52da0fea"), looks := false }, kinds := [], alts := [], laidByText := true, laidKinds := [.data], laidTests := true, laidLooks := .later }
def JournalFreshUptoCardSaid : Prop := Claim7.holds Tryd.pinned (.plain (OpenSpec.upto journalFreshSpec)) journalFreshUptoCard
end Rows
end Go.Proofs.YtdpaaoeipconcaaDoor
