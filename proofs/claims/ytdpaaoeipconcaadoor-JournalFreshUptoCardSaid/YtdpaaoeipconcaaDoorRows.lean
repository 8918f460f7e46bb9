/-
  NARROWER THAN 'FOR EVERY INPUT', by the rows' own cells (each row's printed sentence says how): JournalOpens: laid · JournalOrdered: laid · JournalWrites: laid · JournalNumbers: laid · JournalCrashes: laid · JournalReopens: laid · JournalAll: laid · JournalTwo: laid · JournalRecovers: laid · JournalAtomic: laid · JournalDamage: laid · JournalCut: laid · JournalSerial: laid · JournalFills: laid · JournalFresh: laid.
  DERIVED. THE GIVEN ROWS OF THIS SEAT. 15 by the template 'for every input the law returns true; each argument reads behind the call as it read before'; 0 by the template 'total and deterministic' (their statements: YtdpaaoeipconcaaDoorTotals.lean).
  GIVEN WITH THE SEED: the statements are not yours to turn. If you find one false, say at which input.
  Laid BY PROGRAM, IN A SANDBOX (cutbox-rows.mjs): the forced cells as the released guide's own fill.sh prints them over the translation 4b197825b856c41b… (all of the seat's roots in one cut). By AI agents, Wed Nov 11 2026. No macro, syntax, notation, axiom, sorry.
-/
import Derived.Test.YtdpaaoeipconcaaDoorChecked
import GoSem.Claim
import GoSem.ClaimJoined
import GoSem.ClaimMapViews
import Derived.JoinedTies
import Derived.KernelRfl
namespace Go.Proofs.YtdpaaoeipconcaaDoor
/- THE CELL 'sum', in the pinned program and in every row, IS THE sha256 OF THE DUMP (.gsa) THAT YtdpaaoeipconcaaDoorProg.lean LOADS. Nothing in Lean hashes anything: it is a label: what it is worth is what the hold of that sum in a sandbox is worth. -/
noncomputable def Tryd.pinned : Pinned := { name := "ytdpaaoeipconcaadoor", sum := "4b197825b856c41bb01009f48dc690cb4c96ced5e724323f1d9db652c72022d2", checked := Tryd.checked }
namespace Rows
def none {H : Type} : Left H := { results := [], args := [] }

/- WHAT THE LISTED PACKAGE-LEVEL VARIABLES READ AS WHEN THE CALL BEGINS. Each datum BY PROGRAM (the guide's laid-datum.mjs) off the statement by which the dump's own 'gosem.cut.vars' lays the variable. In a bare row this is a premise. The card (YtdpaaoeipconcaaDoorCards.lean) ties it to the program's text. -/
def laid_weft_journal_steps {H : Type} : DataW H := .agg [.lit (.int .u32 0), .lit (.int .u32 498536548), .lit (.int .u32 997073096), .lit (.int .u32 651767980), .lit (.int .u32 1994146192), .lit (.int .u32 1802195444), .lit (.int .u32 1303535960), .lit (.int .u32 1342533948), .lit (.int .u32 3988292384), .lit (.int .u32 4027552580), .lit (.int .u32 3604390888), .lit (.int .u32 3412177804), .lit (.int .u32 2607071920), .lit (.int .u32 2262029012), .lit (.int .u32 2685067896), .lit (.int .u32 3183342108)]

/-- 'weftlaw12.JournalOpens': WHATEVER THE INPUT: true; the input reads as it did. -/
def journalOpensSpec : ChangeSpec := { name := "journalOpens", fn := fun _ => fun
  | [d] => { results := [.lit (.bool true)], args := [d] }
  | _ => none }
def journalOpensRow : OpenClaim := { program := "ytdpaaoeipconcaadoor", sum := "4b197825b856c41bb01009f48dc690cb4c96ced5e724323f1d9db652c72022d2", func := "weft/weftlaw12.JournalOpens", spec := "journalOpens", named := ["weft/journal.steps"], apart := false, laid := [("weft/journal.steps", laid_weft_journal_steps)] }
def JournalOpensSaid : Prop := journalOpensRow.holds Tryd.pinned (OpenSpec.ofChange journalOpensSpec)

/-- ITS FALSE NEIGHBOUR: 'it returns false'. Refute it at one input. -/
def journalOpensWrong : ChangeSpec := { name := "journalOpens", fn := fun _ => fun
  | [d] => { results := [.lit (.bool false)], args := [d] }
  | _ => none }
def JournalOpensWrongFalsely : Prop := journalOpensRow.holds Tryd.pinned (OpenSpec.ofChange journalOpensWrong)

/-- 'weftlaw12.JournalOrdered': WHATEVER THE INPUT: true; the input reads as it did. -/
def journalOrderedSpec : ChangeSpec := { name := "journalOrdered", fn := fun _ => fun
  | [d1, d2, d3] => { results := [.lit (.bool true)], args := [d1, d2, d3] }
  | _ => none }
def journalOrderedRow : OpenClaim := { program := "ytdpaaoeipconcaadoor", sum := "4b197825b856c41bb01009f48dc690cb4c96ced5e724323f1d9db652c72022d2", func := "weft/weftlaw12.JournalOrdered", spec := "journalOrdered", named := ["weft/journal.steps"], apart := false, laid := [("weft/journal.steps", laid_weft_journal_steps)] }
def JournalOrderedSaid : Prop := journalOrderedRow.holds Tryd.pinned (OpenSpec.ofChange journalOrderedSpec)

/-- ITS FALSE NEIGHBOUR: 'it returns false'. Refute it at one input. -/
def journalOrderedWrong : ChangeSpec := { name := "journalOrdered", fn := fun _ => fun
  | [d1, d2, d3] => { results := [.lit (.bool false)], args := [d1, d2, d3] }
  | _ => none }
def JournalOrderedWrongFalsely : Prop := journalOrderedRow.holds Tryd.pinned (OpenSpec.ofChange journalOrderedWrong)

/-- 'weftlaw12.JournalWrites': WHATEVER THE INPUT: true; the input reads as it did. -/
def journalWritesSpec : ChangeSpec := { name := "journalWrites", fn := fun _ => fun
  | [d1, d2] => { results := [.lit (.bool true)], args := [d1, d2] }
  | _ => none }
def journalWritesRow : OpenClaim := { program := "ytdpaaoeipconcaadoor", sum := "4b197825b856c41bb01009f48dc690cb4c96ced5e724323f1d9db652c72022d2", func := "weft/weftlaw12.JournalWrites", spec := "journalWrites", named := ["weft/journal.steps"], apart := false, laid := [("weft/journal.steps", laid_weft_journal_steps)] }
def JournalWritesSaid : Prop := journalWritesRow.holds Tryd.pinned (OpenSpec.ofChange journalWritesSpec)

/-- ITS FALSE NEIGHBOUR: 'it returns false'. Refute it at one input. -/
def journalWritesWrong : ChangeSpec := { name := "journalWrites", fn := fun _ => fun
  | [d1, d2] => { results := [.lit (.bool false)], args := [d1, d2] }
  | _ => none }
def JournalWritesWrongFalsely : Prop := journalWritesRow.holds Tryd.pinned (OpenSpec.ofChange journalWritesWrong)

/-- 'weftlaw12.JournalNumbers': WHATEVER THE INPUT: true; the input reads as it did. -/
def journalNumbersSpec : ChangeSpec := { name := "journalNumbers", fn := fun _ => fun
  | [d1, d2] => { results := [.lit (.bool true)], args := [d1, d2] }
  | _ => none }
def journalNumbersRow : OpenClaim := { program := "ytdpaaoeipconcaadoor", sum := "4b197825b856c41bb01009f48dc690cb4c96ced5e724323f1d9db652c72022d2", func := "weft/weftlaw12.JournalNumbers", spec := "journalNumbers", named := ["weft/journal.steps"], apart := false, laid := [("weft/journal.steps", laid_weft_journal_steps)] }
def JournalNumbersSaid : Prop := journalNumbersRow.holds Tryd.pinned (OpenSpec.ofChange journalNumbersSpec)

/-- ITS FALSE NEIGHBOUR: 'it returns false'. Refute it at one input. -/
def journalNumbersWrong : ChangeSpec := { name := "journalNumbers", fn := fun _ => fun
  | [d1, d2] => { results := [.lit (.bool false)], args := [d1, d2] }
  | _ => none }
def JournalNumbersWrongFalsely : Prop := journalNumbersRow.holds Tryd.pinned (OpenSpec.ofChange journalNumbersWrong)

/-- 'weftlaw12.JournalCrashes': WHATEVER THE INPUT: true; the input reads as it did. -/
def journalCrashesSpec : ChangeSpec := { name := "journalCrashes", fn := fun _ => fun
  | [d1, d2] => { results := [.lit (.bool true)], args := [d1, d2] }
  | _ => none }
def journalCrashesRow : OpenClaim := { program := "ytdpaaoeipconcaadoor", sum := "4b197825b856c41bb01009f48dc690cb4c96ced5e724323f1d9db652c72022d2", func := "weft/weftlaw12.JournalCrashes", spec := "journalCrashes", named := ["weft/journal.steps"], apart := false, laid := [("weft/journal.steps", laid_weft_journal_steps)] }
def JournalCrashesSaid : Prop := journalCrashesRow.holds Tryd.pinned (OpenSpec.ofChange journalCrashesSpec)

/-- ITS FALSE NEIGHBOUR: 'it returns false'. Refute it at one input. -/
def journalCrashesWrong : ChangeSpec := { name := "journalCrashes", fn := fun _ => fun
  | [d1, d2] => { results := [.lit (.bool false)], args := [d1, d2] }
  | _ => none }
def JournalCrashesWrongFalsely : Prop := journalCrashesRow.holds Tryd.pinned (OpenSpec.ofChange journalCrashesWrong)

/-- 'weftlaw12.JournalReopens': WHATEVER THE INPUT: true; the input reads as it did. -/
def journalReopensSpec : ChangeSpec := { name := "journalReopens", fn := fun _ => fun
  | [d1, d2] => { results := [.lit (.bool true)], args := [d1, d2] }
  | _ => none }
def journalReopensRow : OpenClaim := { program := "ytdpaaoeipconcaadoor", sum := "4b197825b856c41bb01009f48dc690cb4c96ced5e724323f1d9db652c72022d2", func := "weft/weftlaw12.JournalReopens", spec := "journalReopens", named := ["weft/journal.steps"], apart := false, laid := [("weft/journal.steps", laid_weft_journal_steps)] }
def JournalReopensSaid : Prop := journalReopensRow.holds Tryd.pinned (OpenSpec.ofChange journalReopensSpec)

/-- ITS FALSE NEIGHBOUR: 'it returns false'. Refute it at one input. -/
def journalReopensWrong : ChangeSpec := { name := "journalReopens", fn := fun _ => fun
  | [d1, d2] => { results := [.lit (.bool false)], args := [d1, d2] }
  | _ => none }
def JournalReopensWrongFalsely : Prop := journalReopensRow.holds Tryd.pinned (OpenSpec.ofChange journalReopensWrong)

/-- 'weftlaw12.JournalAll': WHATEVER THE INPUT: true; the input reads as it did. -/
def journalAllSpec : ChangeSpec := { name := "journalAll", fn := fun _ => fun
  | [d1, d2] => { results := [.lit (.bool true)], args := [d1, d2] }
  | _ => none }
def journalAllRow : OpenClaim := { program := "ytdpaaoeipconcaadoor", sum := "4b197825b856c41bb01009f48dc690cb4c96ced5e724323f1d9db652c72022d2", func := "weft/weftlaw12.JournalAll", spec := "journalAll", named := ["weft/journal.steps"], apart := false, laid := [("weft/journal.steps", laid_weft_journal_steps)] }
def JournalAllSaid : Prop := journalAllRow.holds Tryd.pinned (OpenSpec.ofChange journalAllSpec)

/-- ITS FALSE NEIGHBOUR: 'it returns false'. Refute it at one input. -/
def journalAllWrong : ChangeSpec := { name := "journalAll", fn := fun _ => fun
  | [d1, d2] => { results := [.lit (.bool false)], args := [d1, d2] }
  | _ => none }
def JournalAllWrongFalsely : Prop := journalAllRow.holds Tryd.pinned (OpenSpec.ofChange journalAllWrong)

/-- 'weftlaw12.JournalTwo': WHATEVER THE INPUT: true; the input reads as it did. -/
def journalTwoSpec : ChangeSpec := { name := "journalTwo", fn := fun _ => fun
  | [d1, d2, d3, d4] => { results := [.lit (.bool true)], args := [d1, d2, d3, d4] }
  | _ => none }
def journalTwoRow : OpenClaim := { program := "ytdpaaoeipconcaadoor", sum := "4b197825b856c41bb01009f48dc690cb4c96ced5e724323f1d9db652c72022d2", func := "weft/weftlaw12.JournalTwo", spec := "journalTwo", named := ["weft/journal.steps"], apart := false, laid := [("weft/journal.steps", laid_weft_journal_steps)] }
def JournalTwoSaid : Prop := journalTwoRow.holds Tryd.pinned (OpenSpec.ofChange journalTwoSpec)

/-- ITS FALSE NEIGHBOUR: 'it returns false'. Refute it at one input. -/
def journalTwoWrong : ChangeSpec := { name := "journalTwo", fn := fun _ => fun
  | [d1, d2, d3, d4] => { results := [.lit (.bool false)], args := [d1, d2, d3, d4] }
  | _ => none }
def JournalTwoWrongFalsely : Prop := journalTwoRow.holds Tryd.pinned (OpenSpec.ofChange journalTwoWrong)

/-- 'weftlaw12.JournalRecovers': WHATEVER THE INPUT: true; the input reads as it did. -/
def journalRecoversSpec : ChangeSpec := { name := "journalRecovers", fn := fun _ => fun
  | [d] => { results := [.lit (.bool true)], args := [d] }
  | _ => none }
def journalRecoversRow : OpenClaim := { program := "ytdpaaoeipconcaadoor", sum := "4b197825b856c41bb01009f48dc690cb4c96ced5e724323f1d9db652c72022d2", func := "weft/weftlaw12.JournalRecovers", spec := "journalRecovers", named := ["weft/journal.steps"], apart := false, laid := [("weft/journal.steps", laid_weft_journal_steps)] }
def JournalRecoversSaid : Prop := journalRecoversRow.holds Tryd.pinned (OpenSpec.ofChange journalRecoversSpec)

/-- ITS FALSE NEIGHBOUR: 'it returns false'. Refute it at one input. -/
def journalRecoversWrong : ChangeSpec := { name := "journalRecovers", fn := fun _ => fun
  | [d] => { results := [.lit (.bool false)], args := [d] }
  | _ => none }
def JournalRecoversWrongFalsely : Prop := journalRecoversRow.holds Tryd.pinned (OpenSpec.ofChange journalRecoversWrong)

/-- 'weftlaw12.JournalAtomic': WHATEVER THE INPUT: true; the input reads as it did. -/
def journalAtomicSpec : ChangeSpec := { name := "journalAtomic", fn := fun _ => fun
  | [d1, d2, d3] => { results := [.lit (.bool true)], args := [d1, d2, d3] }
  | _ => none }
def journalAtomicRow : OpenClaim := { program := "ytdpaaoeipconcaadoor", sum := "4b197825b856c41bb01009f48dc690cb4c96ced5e724323f1d9db652c72022d2", func := "weft/weftlaw12.JournalAtomic", spec := "journalAtomic", named := ["weft/journal.steps"], apart := false, laid := [("weft/journal.steps", laid_weft_journal_steps)] }
def JournalAtomicSaid : Prop := journalAtomicRow.holds Tryd.pinned (OpenSpec.ofChange journalAtomicSpec)

/-- ITS FALSE NEIGHBOUR: 'it returns false'. Refute it at one input. -/
def journalAtomicWrong : ChangeSpec := { name := "journalAtomic", fn := fun _ => fun
  | [d1, d2, d3] => { results := [.lit (.bool false)], args := [d1, d2, d3] }
  | _ => none }
def JournalAtomicWrongFalsely : Prop := journalAtomicRow.holds Tryd.pinned (OpenSpec.ofChange journalAtomicWrong)

/-- 'weftlaw12.JournalDamage': WHATEVER THE INPUT: true; the input reads as it did. -/
def journalDamageSpec : ChangeSpec := { name := "journalDamage", fn := fun _ => fun
  | [d1, d2, d3, d4] => { results := [.lit (.bool true)], args := [d1, d2, d3, d4] }
  | _ => none }
def journalDamageRow : OpenClaim := { program := "ytdpaaoeipconcaadoor", sum := "4b197825b856c41bb01009f48dc690cb4c96ced5e724323f1d9db652c72022d2", func := "weft/weftlaw12.JournalDamage", spec := "journalDamage", named := ["weft/journal.steps"], apart := false, laid := [("weft/journal.steps", laid_weft_journal_steps)] }
def JournalDamageSaid : Prop := journalDamageRow.holds Tryd.pinned (OpenSpec.ofChange journalDamageSpec)

/-- ITS FALSE NEIGHBOUR: 'it returns false'. Refute it at one input. -/
def journalDamageWrong : ChangeSpec := { name := "journalDamage", fn := fun _ => fun
  | [d1, d2, d3, d4] => { results := [.lit (.bool false)], args := [d1, d2, d3, d4] }
  | _ => none }
def JournalDamageWrongFalsely : Prop := journalDamageRow.holds Tryd.pinned (OpenSpec.ofChange journalDamageWrong)

/-- 'weftlaw12.JournalCut': WHATEVER THE INPUT: true; the input reads as it did. -/
def journalCutSpec : ChangeSpec := { name := "journalCut", fn := fun _ => fun
  | [d1, d2, d3] => { results := [.lit (.bool true)], args := [d1, d2, d3] }
  | _ => none }
def journalCutRow : OpenClaim := { program := "ytdpaaoeipconcaadoor", sum := "4b197825b856c41bb01009f48dc690cb4c96ced5e724323f1d9db652c72022d2", func := "weft/weftlaw12.JournalCut", spec := "journalCut", named := ["weft/journal.steps"], apart := false, laid := [("weft/journal.steps", laid_weft_journal_steps)] }
def JournalCutSaid : Prop := journalCutRow.holds Tryd.pinned (OpenSpec.ofChange journalCutSpec)

/-- ITS FALSE NEIGHBOUR: 'it returns false'. Refute it at one input. -/
def journalCutWrong : ChangeSpec := { name := "journalCut", fn := fun _ => fun
  | [d1, d2, d3] => { results := [.lit (.bool false)], args := [d1, d2, d3] }
  | _ => none }
def JournalCutWrongFalsely : Prop := journalCutRow.holds Tryd.pinned (OpenSpec.ofChange journalCutWrong)

/-- 'weftlaw12.JournalSerial': WHATEVER THE INPUT: true; the input reads as it did. -/
def journalSerialSpec : ChangeSpec := { name := "journalSerial", fn := fun _ => fun
  | [d1, d2, d3] => { results := [.lit (.bool true)], args := [d1, d2, d3] }
  | _ => none }
def journalSerialRow : OpenClaim := { program := "ytdpaaoeipconcaadoor", sum := "4b197825b856c41bb01009f48dc690cb4c96ced5e724323f1d9db652c72022d2", func := "weft/weftlaw12.JournalSerial", spec := "journalSerial", named := ["weft/journal.steps"], apart := false, laid := [("weft/journal.steps", laid_weft_journal_steps)] }
def JournalSerialSaid : Prop := journalSerialRow.holds Tryd.pinned (OpenSpec.ofChange journalSerialSpec)

/-- ITS FALSE NEIGHBOUR: 'it returns false'. Refute it at one input. -/
def journalSerialWrong : ChangeSpec := { name := "journalSerial", fn := fun _ => fun
  | [d1, d2, d3] => { results := [.lit (.bool false)], args := [d1, d2, d3] }
  | _ => none }
def JournalSerialWrongFalsely : Prop := journalSerialRow.holds Tryd.pinned (OpenSpec.ofChange journalSerialWrong)

/-- 'weftlaw12.JournalFills': WHATEVER THE INPUT: true; the input reads as it did. -/
def journalFillsSpec : ChangeSpec := { name := "journalFills", fn := fun _ => fun
  | [d] => { results := [.lit (.bool true)], args := [d] }
  | _ => none }
def journalFillsRow : OpenClaim := { program := "ytdpaaoeipconcaadoor", sum := "4b197825b856c41bb01009f48dc690cb4c96ced5e724323f1d9db652c72022d2", func := "weft/weftlaw12.JournalFills", spec := "journalFills", named := ["weft/journal.steps"], apart := false, laid := [("weft/journal.steps", laid_weft_journal_steps)] }
def JournalFillsSaid : Prop := journalFillsRow.holds Tryd.pinned (OpenSpec.ofChange journalFillsSpec)

/-- ITS FALSE NEIGHBOUR: 'it returns false'. Refute it at one input. -/
def journalFillsWrong : ChangeSpec := { name := "journalFills", fn := fun _ => fun
  | [d] => { results := [.lit (.bool false)], args := [d] }
  | _ => none }
def JournalFillsWrongFalsely : Prop := journalFillsRow.holds Tryd.pinned (OpenSpec.ofChange journalFillsWrong)

/-- 'weftlaw12.JournalFresh': WHATEVER THE INPUT: true; the input reads as it did. -/
def journalFreshSpec : ChangeSpec := { name := "journalFresh", fn := fun _ => fun
  | [d1, d2] => { results := [.lit (.bool true)], args := [d1, d2] }
  | _ => none }
def journalFreshRow : OpenClaim := { program := "ytdpaaoeipconcaadoor", sum := "4b197825b856c41bb01009f48dc690cb4c96ced5e724323f1d9db652c72022d2", func := "weft/weftlaw12.JournalFresh", spec := "journalFresh", named := ["weft/journal.steps"], apart := false, laid := [("weft/journal.steps", laid_weft_journal_steps)] }
def JournalFreshSaid : Prop := journalFreshRow.holds Tryd.pinned (OpenSpec.ofChange journalFreshSpec)

/-- ITS FALSE NEIGHBOUR: 'it returns false'. Refute it at one input. -/
def journalFreshWrong : ChangeSpec := { name := "journalFresh", fn := fun _ => fun
  | [d1, d2] => { results := [.lit (.bool false)], args := [d1, d2] }
  | _ => none }
def JournalFreshWrongFalsely : Prop := journalFreshRow.holds Tryd.pinned (OpenSpec.ofChange journalFreshWrong)

/- THE SECOND FORM. 'bulk': how many values and letters a reading holds, each counted each time it is reached (what is shared counts as often as it is met; a slice's spare places count too). A statement '..UptoSaid' is the law's where the arguments, and the package variables that the reading takes, are together of bulk at most 1048576: NARROWER than '..Said'. Prove '..Said' where nothing that the law and all that it calls make is longer than what came in: it says more and counts as full. Else prove '..UptoSaid'. A law counts once. -/
mutual
def uptoBulk {H : Type} : DataW H → Nat
  | .lit (.string bytes) => bytes.length + 1
  | .lit _ => 1
  | .nil => 1
  | .ptr d => uptoBulk d + 1
  | .slice elems spare => uptoBulkAll elems + uptoBulkAll spare + 1
  | .agg parts => uptoBulkAll parts + 1
  | .iface _ d => uptoBulk d + 1
  | .map entries => uptoBulkEntries entries + 1
  | .held _ => 1
def uptoBulkAll {H : Type} : List (DataW H) → Nat
  | [] => 0
  | d :: r => uptoBulk d + uptoBulkAll r
def uptoBulkEntries {H : Type} : List (Lit × DataW H) → Nat
  | [] => 0
  | x :: r => uptoBulkEntry x + uptoBulkEntries r
def uptoBulkEntry {H : Type} : Lit × DataW H → Nat
  | (.string bytes, d) => bytes.length + uptoBulk d + 1
  | (_, d) => uptoBulk d + 1
 end
def uptoSmall : (H : Type) → List (DataW H) → Bool := fun _ ds => decide (uptoBulkAll ds ≤ 1048576)
def OpenSpec.upto (s : _root_.Go.ChangeSpec) : _root_.Go.OpenSpec := { _root_.Go.OpenSpec.ofChange s with cond := some uptoSmall }

/-- 'weftlaw12.JournalOpens', WHERE WHAT IT READS IS OF BULK AT MOST 1048576: true; the input reads as it did. -/
def journalOpensUptoRow : OpenClaim := { program := "ytdpaaoeipconcaadoor", sum := "4b197825b856c41bb01009f48dc690cb4c96ced5e724323f1d9db652c72022d2", func := "weft/weftlaw12.JournalOpens", spec := "journalOpens", named := ["weft/journal.steps"], apart := false, laid := [("weft/journal.steps", laid_weft_journal_steps)], narrowed := true }
def JournalOpensUptoSaid : Prop := journalOpensUptoRow.holds Tryd.pinned (OpenSpec.upto journalOpensSpec)

/-- 'weftlaw12.JournalOrdered', WHERE WHAT IT READS IS OF BULK AT MOST 1048576: true; the input reads as it did. -/
def journalOrderedUptoRow : OpenClaim := { program := "ytdpaaoeipconcaadoor", sum := "4b197825b856c41bb01009f48dc690cb4c96ced5e724323f1d9db652c72022d2", func := "weft/weftlaw12.JournalOrdered", spec := "journalOrdered", named := ["weft/journal.steps"], apart := false, laid := [("weft/journal.steps", laid_weft_journal_steps)], narrowed := true }
def JournalOrderedUptoSaid : Prop := journalOrderedUptoRow.holds Tryd.pinned (OpenSpec.upto journalOrderedSpec)

/-- 'weftlaw12.JournalWrites', WHERE WHAT IT READS IS OF BULK AT MOST 1048576: true; the input reads as it did. -/
def journalWritesUptoRow : OpenClaim := { program := "ytdpaaoeipconcaadoor", sum := "4b197825b856c41bb01009f48dc690cb4c96ced5e724323f1d9db652c72022d2", func := "weft/weftlaw12.JournalWrites", spec := "journalWrites", named := ["weft/journal.steps"], apart := false, laid := [("weft/journal.steps", laid_weft_journal_steps)], narrowed := true }
def JournalWritesUptoSaid : Prop := journalWritesUptoRow.holds Tryd.pinned (OpenSpec.upto journalWritesSpec)

/-- 'weftlaw12.JournalNumbers', WHERE WHAT IT READS IS OF BULK AT MOST 1048576: true; the input reads as it did. -/
def journalNumbersUptoRow : OpenClaim := { program := "ytdpaaoeipconcaadoor", sum := "4b197825b856c41bb01009f48dc690cb4c96ced5e724323f1d9db652c72022d2", func := "weft/weftlaw12.JournalNumbers", spec := "journalNumbers", named := ["weft/journal.steps"], apart := false, laid := [("weft/journal.steps", laid_weft_journal_steps)], narrowed := true }
def JournalNumbersUptoSaid : Prop := journalNumbersUptoRow.holds Tryd.pinned (OpenSpec.upto journalNumbersSpec)

/-- 'weftlaw12.JournalCrashes', WHERE WHAT IT READS IS OF BULK AT MOST 1048576: true; the input reads as it did. -/
def journalCrashesUptoRow : OpenClaim := { program := "ytdpaaoeipconcaadoor", sum := "4b197825b856c41bb01009f48dc690cb4c96ced5e724323f1d9db652c72022d2", func := "weft/weftlaw12.JournalCrashes", spec := "journalCrashes", named := ["weft/journal.steps"], apart := false, laid := [("weft/journal.steps", laid_weft_journal_steps)], narrowed := true }
def JournalCrashesUptoSaid : Prop := journalCrashesUptoRow.holds Tryd.pinned (OpenSpec.upto journalCrashesSpec)

/-- 'weftlaw12.JournalReopens', WHERE WHAT IT READS IS OF BULK AT MOST 1048576: true; the input reads as it did. -/
def journalReopensUptoRow : OpenClaim := { program := "ytdpaaoeipconcaadoor", sum := "4b197825b856c41bb01009f48dc690cb4c96ced5e724323f1d9db652c72022d2", func := "weft/weftlaw12.JournalReopens", spec := "journalReopens", named := ["weft/journal.steps"], apart := false, laid := [("weft/journal.steps", laid_weft_journal_steps)], narrowed := true }
def JournalReopensUptoSaid : Prop := journalReopensUptoRow.holds Tryd.pinned (OpenSpec.upto journalReopensSpec)

/-- 'weftlaw12.JournalAll', WHERE WHAT IT READS IS OF BULK AT MOST 1048576: true; the input reads as it did. -/
def journalAllUptoRow : OpenClaim := { program := "ytdpaaoeipconcaadoor", sum := "4b197825b856c41bb01009f48dc690cb4c96ced5e724323f1d9db652c72022d2", func := "weft/weftlaw12.JournalAll", spec := "journalAll", named := ["weft/journal.steps"], apart := false, laid := [("weft/journal.steps", laid_weft_journal_steps)], narrowed := true }
def JournalAllUptoSaid : Prop := journalAllUptoRow.holds Tryd.pinned (OpenSpec.upto journalAllSpec)

/-- 'weftlaw12.JournalTwo', WHERE WHAT IT READS IS OF BULK AT MOST 1048576: true; the input reads as it did. -/
def journalTwoUptoRow : OpenClaim := { program := "ytdpaaoeipconcaadoor", sum := "4b197825b856c41bb01009f48dc690cb4c96ced5e724323f1d9db652c72022d2", func := "weft/weftlaw12.JournalTwo", spec := "journalTwo", named := ["weft/journal.steps"], apart := false, laid := [("weft/journal.steps", laid_weft_journal_steps)], narrowed := true }
def JournalTwoUptoSaid : Prop := journalTwoUptoRow.holds Tryd.pinned (OpenSpec.upto journalTwoSpec)

/-- 'weftlaw12.JournalRecovers', WHERE WHAT IT READS IS OF BULK AT MOST 1048576: true; the input reads as it did. -/
def journalRecoversUptoRow : OpenClaim := { program := "ytdpaaoeipconcaadoor", sum := "4b197825b856c41bb01009f48dc690cb4c96ced5e724323f1d9db652c72022d2", func := "weft/weftlaw12.JournalRecovers", spec := "journalRecovers", named := ["weft/journal.steps"], apart := false, laid := [("weft/journal.steps", laid_weft_journal_steps)], narrowed := true }
def JournalRecoversUptoSaid : Prop := journalRecoversUptoRow.holds Tryd.pinned (OpenSpec.upto journalRecoversSpec)

/-- 'weftlaw12.JournalAtomic', WHERE WHAT IT READS IS OF BULK AT MOST 1048576: true; the input reads as it did. -/
def journalAtomicUptoRow : OpenClaim := { program := "ytdpaaoeipconcaadoor", sum := "4b197825b856c41bb01009f48dc690cb4c96ced5e724323f1d9db652c72022d2", func := "weft/weftlaw12.JournalAtomic", spec := "journalAtomic", named := ["weft/journal.steps"], apart := false, laid := [("weft/journal.steps", laid_weft_journal_steps)], narrowed := true }
def JournalAtomicUptoSaid : Prop := journalAtomicUptoRow.holds Tryd.pinned (OpenSpec.upto journalAtomicSpec)

/-- 'weftlaw12.JournalDamage', WHERE WHAT IT READS IS OF BULK AT MOST 1048576: true; the input reads as it did. -/
def journalDamageUptoRow : OpenClaim := { program := "ytdpaaoeipconcaadoor", sum := "4b197825b856c41bb01009f48dc690cb4c96ced5e724323f1d9db652c72022d2", func := "weft/weftlaw12.JournalDamage", spec := "journalDamage", named := ["weft/journal.steps"], apart := false, laid := [("weft/journal.steps", laid_weft_journal_steps)], narrowed := true }
def JournalDamageUptoSaid : Prop := journalDamageUptoRow.holds Tryd.pinned (OpenSpec.upto journalDamageSpec)

/-- 'weftlaw12.JournalCut', WHERE WHAT IT READS IS OF BULK AT MOST 1048576: true; the input reads as it did. -/
def journalCutUptoRow : OpenClaim := { program := "ytdpaaoeipconcaadoor", sum := "4b197825b856c41bb01009f48dc690cb4c96ced5e724323f1d9db652c72022d2", func := "weft/weftlaw12.JournalCut", spec := "journalCut", named := ["weft/journal.steps"], apart := false, laid := [("weft/journal.steps", laid_weft_journal_steps)], narrowed := true }
def JournalCutUptoSaid : Prop := journalCutUptoRow.holds Tryd.pinned (OpenSpec.upto journalCutSpec)

/-- 'weftlaw12.JournalSerial', WHERE WHAT IT READS IS OF BULK AT MOST 1048576: true; the input reads as it did. -/
def journalSerialUptoRow : OpenClaim := { program := "ytdpaaoeipconcaadoor", sum := "4b197825b856c41bb01009f48dc690cb4c96ced5e724323f1d9db652c72022d2", func := "weft/weftlaw12.JournalSerial", spec := "journalSerial", named := ["weft/journal.steps"], apart := false, laid := [("weft/journal.steps", laid_weft_journal_steps)], narrowed := true }
def JournalSerialUptoSaid : Prop := journalSerialUptoRow.holds Tryd.pinned (OpenSpec.upto journalSerialSpec)

/-- 'weftlaw12.JournalFills', WHERE WHAT IT READS IS OF BULK AT MOST 1048576: true; the input reads as it did. -/
def journalFillsUptoRow : OpenClaim := { program := "ytdpaaoeipconcaadoor", sum := "4b197825b856c41bb01009f48dc690cb4c96ced5e724323f1d9db652c72022d2", func := "weft/weftlaw12.JournalFills", spec := "journalFills", named := ["weft/journal.steps"], apart := false, laid := [("weft/journal.steps", laid_weft_journal_steps)], narrowed := true }
def JournalFillsUptoSaid : Prop := journalFillsUptoRow.holds Tryd.pinned (OpenSpec.upto journalFillsSpec)

/-- 'weftlaw12.JournalFresh', WHERE WHAT IT READS IS OF BULK AT MOST 1048576: true; the input reads as it did. -/
def journalFreshUptoRow : OpenClaim := { program := "ytdpaaoeipconcaadoor", sum := "4b197825b856c41bb01009f48dc690cb4c96ced5e724323f1d9db652c72022d2", func := "weft/weftlaw12.JournalFresh", spec := "journalFresh", named := ["weft/journal.steps"], apart := false, laid := [("weft/journal.steps", laid_weft_journal_steps)], narrowed := true }
def JournalFreshUptoSaid : Prop := journalFreshUptoRow.holds Tryd.pinned (OpenSpec.upto journalFreshSpec)

end Rows
end Go.Proofs.YtdpaaoeipconcaaDoor
