/-
  No cell of these rows narrows 'for every input' (looked for: loops, veiled, ifaces, maps, wideKeys, modest, calm, conditions, laid).
  DERIVED. THE GIVEN ROWS OF THIS SEAT. 14 by the template 'for every input the law returns true; each argument reads behind the call as it read before'; 0 by the template 'total and deterministic' (their statements: YtgnndggbjipioaaTotals.lean).
  GIVEN WITH THE SEED: the statements are not yours to turn. If you find one false, say at which input.
  Laid BY PROGRAM, IN A SANDBOX (cutbox-rows.mjs): the forced cells as the released guide's own fill.sh prints them over the translation 59f1006afabf703c… (all of the seat's roots in one cut). By AI agents, Wed Nov 11 2026. No macro, syntax, notation, axiom, sorry.
-/
import Derived.Test.YtgnndggbjipioaaChecked
import GoSem.Claim
import GoSem.ClaimJoined
import GoSem.ClaimMapViews
import Derived.JoinedTies
import Derived.KernelRfl
namespace Go.Proofs.Ytgnndggbjipioaa
/- THE CELL 'sum', in the pinned program and in every row, IS THE sha256 OF THE DUMP (.gsa) THAT YtgnndggbjipioaaProg.lean LOADS. Nothing in Lean hashes anything: it is a label: what it is worth is what the hold of that sum in a sandbox is worth. -/
noncomputable def Try.pinned : Pinned := { name := "ytgnndggbjipioaa", sum := "59f1006afabf703c65b7b22d9f85a9d0f11608c8903a9d2513a64228e1c27922", checked := Try.checked }
namespace Rows
def none {H : Type} : Left H := { results := [], args := [] }

/-- 'weftlaw0.Names': WHATEVER THE INPUT: true; the input reads as it did. -/
def namesSpec : ChangeSpec := { name := "names", fn := fun _ => fun
  | [] => { results := [.lit (.bool true)], args := [] }
  | _ => none }
def namesRow : OpenClaim := { program := "ytgnndggbjipioaa", sum := "59f1006afabf703c65b7b22d9f85a9d0f11608c8903a9d2513a64228e1c27922", func := "weft/weftlaw0.Names", spec := "names", apart := false }
def NamesSaid : Prop := namesRow.holds Try.pinned (OpenSpec.ofChange namesSpec)

/-- ITS FALSE NEIGHBOUR: 'it returns false'. Refute it at one input. -/
def namesWrong : ChangeSpec := { name := "names", fn := fun _ => fun
  | [] => { results := [.lit (.bool false)], args := [] }
  | _ => none }
def NamesWrongFalsely : Prop := namesRow.holds Try.pinned (OpenSpec.ofChange namesWrong)

/-- 'weftlaw18.UnderNews': WHATEVER THE INPUT: true; the input reads as it did. -/
def underNewsSpec : ChangeSpec := { name := "underNews", fn := fun _ => fun
  | [d] => { results := [.lit (.bool true)], args := [d] }
  | _ => none }
def underNewsRow : OpenClaim := { program := "ytgnndggbjipioaa", sum := "59f1006afabf703c65b7b22d9f85a9d0f11608c8903a9d2513a64228e1c27922", func := "weft/weftlaw18.UnderNews", spec := "underNews", apart := false }
def UnderNewsSaid : Prop := underNewsRow.holds Try.pinned (OpenSpec.ofChange underNewsSpec)

/-- ITS FALSE NEIGHBOUR: 'it returns false'. Refute it at one input. -/
def underNewsWrong : ChangeSpec := { name := "underNews", fn := fun _ => fun
  | [d] => { results := [.lit (.bool false)], args := [d] }
  | _ => none }
def UnderNewsWrongFalsely : Prop := underNewsRow.holds Try.pinned (OpenSpec.ofChange underNewsWrong)

/-- 'weftlaw18.UnderPuts': WHATEVER THE INPUT: true; the input reads as it did. -/
def underPutsSpec : ChangeSpec := { name := "underPuts", fn := fun _ => fun
  | [d1, d2] => { results := [.lit (.bool true)], args := [d1, d2] }
  | _ => none }
def underPutsRow : OpenClaim := { program := "ytgnndggbjipioaa", sum := "59f1006afabf703c65b7b22d9f85a9d0f11608c8903a9d2513a64228e1c27922", func := "weft/weftlaw18.UnderPuts", spec := "underPuts", apart := false }
def UnderPutsSaid : Prop := underPutsRow.holds Try.pinned (OpenSpec.ofChange underPutsSpec)

/-- ITS FALSE NEIGHBOUR: 'it returns false'. Refute it at one input. -/
def underPutsWrong : ChangeSpec := { name := "underPuts", fn := fun _ => fun
  | [d1, d2] => { results := [.lit (.bool false)], args := [d1, d2] }
  | _ => none }
def UnderPutsWrongFalsely : Prop := underPutsRow.holds Try.pinned (OpenSpec.ofChange underPutsWrong)

/-- 'weftlaw18.UnderTakes': WHATEVER THE INPUT: true; the input reads as it did. -/
def underTakesSpec : ChangeSpec := { name := "underTakes", fn := fun _ => fun
  | [d1, d2] => { results := [.lit (.bool true)], args := [d1, d2] }
  | _ => none }
def underTakesRow : OpenClaim := { program := "ytgnndggbjipioaa", sum := "59f1006afabf703c65b7b22d9f85a9d0f11608c8903a9d2513a64228e1c27922", func := "weft/weftlaw18.UnderTakes", spec := "underTakes", apart := false }
def UnderTakesSaid : Prop := underTakesRow.holds Try.pinned (OpenSpec.ofChange underTakesSpec)

/-- ITS FALSE NEIGHBOUR: 'it returns false'. Refute it at one input. -/
def underTakesWrong : ChangeSpec := { name := "underTakes", fn := fun _ => fun
  | [d1, d2] => { results := [.lit (.bool false)], args := [d1, d2] }
  | _ => none }
def UnderTakesWrongFalsely : Prop := underTakesRow.holds Try.pinned (OpenSpec.ofChange underTakesWrong)

/-- 'weftlaw18.UnderChances': WHATEVER THE INPUT: true; the input reads as it did. -/
def underChancesSpec : ChangeSpec := { name := "underChances", fn := fun _ => fun
  | [d1, d2] => { results := [.lit (.bool true)], args := [d1, d2] }
  | _ => none }
def underChancesRow : OpenClaim := { program := "ytgnndggbjipioaa", sum := "59f1006afabf703c65b7b22d9f85a9d0f11608c8903a9d2513a64228e1c27922", func := "weft/weftlaw18.UnderChances", spec := "underChances", apart := false }
def UnderChancesSaid : Prop := underChancesRow.holds Try.pinned (OpenSpec.ofChange underChancesSpec)

/-- ITS FALSE NEIGHBOUR: 'it returns false'. Refute it at one input. -/
def underChancesWrong : ChangeSpec := { name := "underChances", fn := fun _ => fun
  | [d1, d2] => { results := [.lit (.bool false)], args := [d1, d2] }
  | _ => none }
def UnderChancesWrongFalsely : Prop := underChancesRow.holds Try.pinned (OpenSpec.ofChange underChancesWrong)

/-- 'weftlaw18.UnderLists': WHATEVER THE INPUT: true; the input reads as it did. -/
def underListsSpec : ChangeSpec := { name := "underLists", fn := fun _ => fun
  | [d1, d2] => { results := [.lit (.bool true)], args := [d1, d2] }
  | _ => none }
def underListsRow : OpenClaim := { program := "ytgnndggbjipioaa", sum := "59f1006afabf703c65b7b22d9f85a9d0f11608c8903a9d2513a64228e1c27922", func := "weft/weftlaw18.UnderLists", spec := "underLists", apart := false }
def UnderListsSaid : Prop := underListsRow.holds Try.pinned (OpenSpec.ofChange underListsSpec)

/-- ITS FALSE NEIGHBOUR: 'it returns false'. Refute it at one input. -/
def underListsWrong : ChangeSpec := { name := "underLists", fn := fun _ => fun
  | [d1, d2] => { results := [.lit (.bool false)], args := [d1, d2] }
  | _ => none }
def UnderListsWrongFalsely : Prop := underListsRow.holds Try.pinned (OpenSpec.ofChange underListsWrong)

/-- 'weftlaw18.UnderAll': WHATEVER THE INPUT: true; the input reads as it did. -/
def underAllSpec : ChangeSpec := { name := "underAll", fn := fun _ => fun
  | [d1, d2] => { results := [.lit (.bool true)], args := [d1, d2] }
  | _ => none }
def underAllRow : OpenClaim := { program := "ytgnndggbjipioaa", sum := "59f1006afabf703c65b7b22d9f85a9d0f11608c8903a9d2513a64228e1c27922", func := "weft/weftlaw18.UnderAll", spec := "underAll", apart := false }
def UnderAllSaid : Prop := underAllRow.holds Try.pinned (OpenSpec.ofChange underAllSpec)

/-- ITS FALSE NEIGHBOUR: 'it returns false'. Refute it at one input. -/
def underAllWrong : ChangeSpec := { name := "underAll", fn := fun _ => fun
  | [d1, d2] => { results := [.lit (.bool false)], args := [d1, d2] }
  | _ => none }
def UnderAllWrongFalsely : Prop := underAllRow.holds Try.pinned (OpenSpec.ofChange underAllWrong)

/-- 'weftlaw18.UnderTwo': WHATEVER THE INPUT: true; the input reads as it did. -/
def underTwoSpec : ChangeSpec := { name := "underTwo", fn := fun _ => fun
  | [d1, d2, d3, d4] => { results := [.lit (.bool true)], args := [d1, d2, d3, d4] }
  | _ => none }
def underTwoRow : OpenClaim := { program := "ytgnndggbjipioaa", sum := "59f1006afabf703c65b7b22d9f85a9d0f11608c8903a9d2513a64228e1c27922", func := "weft/weftlaw18.UnderTwo", spec := "underTwo", apart := false }
def UnderTwoSaid : Prop := underTwoRow.holds Try.pinned (OpenSpec.ofChange underTwoSpec)

/-- ITS FALSE NEIGHBOUR: 'it returns false'. Refute it at one input. -/
def underTwoWrong : ChangeSpec := { name := "underTwo", fn := fun _ => fun
  | [d1, d2, d3, d4] => { results := [.lit (.bool false)], args := [d1, d2, d3, d4] }
  | _ => none }
def UnderTwoWrongFalsely : Prop := underTwoRow.holds Try.pinned (OpenSpec.ofChange underTwoWrong)

/-- 'weftlaw18.UnderFrame': WHATEVER THE INPUT: true; the input reads as it did. -/
def underFrameSpec : ChangeSpec := { name := "underFrame", fn := fun _ => fun
  | [d1, d2] => { results := [.lit (.bool true)], args := [d1, d2] }
  | _ => none }
def underFrameRow : OpenClaim := { program := "ytgnndggbjipioaa", sum := "59f1006afabf703c65b7b22d9f85a9d0f11608c8903a9d2513a64228e1c27922", func := "weft/weftlaw18.UnderFrame", spec := "underFrame", apart := false }
def UnderFrameSaid : Prop := underFrameRow.holds Try.pinned (OpenSpec.ofChange underFrameSpec)

/-- ITS FALSE NEIGHBOUR: 'it returns false'. Refute it at one input. -/
def underFrameWrong : ChangeSpec := { name := "underFrame", fn := fun _ => fun
  | [d1, d2] => { results := [.lit (.bool false)], args := [d1, d2] }
  | _ => none }
def UnderFrameWrongFalsely : Prop := underFrameRow.holds Try.pinned (OpenSpec.ofChange underFrameWrong)

/-- 'weftlaw18.UnderCounts': WHATEVER THE INPUT: true; the input reads as it did. -/
def underCountsSpec : ChangeSpec := { name := "underCounts", fn := fun _ => fun
  | [d1, d2] => { results := [.lit (.bool true)], args := [d1, d2] }
  | _ => none }
def underCountsRow : OpenClaim := { program := "ytgnndggbjipioaa", sum := "59f1006afabf703c65b7b22d9f85a9d0f11608c8903a9d2513a64228e1c27922", func := "weft/weftlaw18.UnderCounts", spec := "underCounts", apart := false }
def UnderCountsSaid : Prop := underCountsRow.holds Try.pinned (OpenSpec.ofChange underCountsSpec)

/-- ITS FALSE NEIGHBOUR: 'it returns false'. Refute it at one input. -/
def underCountsWrong : ChangeSpec := { name := "underCounts", fn := fun _ => fun
  | [d1, d2] => { results := [.lit (.bool false)], args := [d1, d2] }
  | _ => none }
def UnderCountsWrongFalsely : Prop := underCountsRow.holds Try.pinned (OpenSpec.ofChange underCountsWrong)

/-- 'weftlaw18.UnderOrder': WHATEVER THE INPUT: true; the input reads as it did. -/
def underOrderSpec : ChangeSpec := { name := "underOrder", fn := fun _ => fun
  | [d1, d2] => { results := [.lit (.bool true)], args := [d1, d2] }
  | _ => none }
def underOrderRow : OpenClaim := { program := "ytgnndggbjipioaa", sum := "59f1006afabf703c65b7b22d9f85a9d0f11608c8903a9d2513a64228e1c27922", func := "weft/weftlaw18.UnderOrder", spec := "underOrder", apart := false }
def UnderOrderSaid : Prop := underOrderRow.holds Try.pinned (OpenSpec.ofChange underOrderSpec)

/-- ITS FALSE NEIGHBOUR: 'it returns false'. Refute it at one input. -/
def underOrderWrong : ChangeSpec := { name := "underOrder", fn := fun _ => fun
  | [d1, d2] => { results := [.lit (.bool false)], args := [d1, d2] }
  | _ => none }
def UnderOrderWrongFalsely : Prop := underOrderRow.holds Try.pinned (OpenSpec.ofChange underOrderWrong)

/-- 'weftlaw18.UnderSpoilTwice': WHATEVER THE INPUT: true; the input reads as it did. -/
def underSpoilTwiceSpec : ChangeSpec := { name := "underSpoilTwice", fn := fun _ => fun
  | [d1, d2, d3] => { results := [.lit (.bool true)], args := [d1, d2, d3] }
  | _ => none }
def underSpoilTwiceRow : OpenClaim := { program := "ytgnndggbjipioaa", sum := "59f1006afabf703c65b7b22d9f85a9d0f11608c8903a9d2513a64228e1c27922", func := "weft/weftlaw18.UnderSpoilTwice", spec := "underSpoilTwice", apart := false }
def UnderSpoilTwiceSaid : Prop := underSpoilTwiceRow.holds Try.pinned (OpenSpec.ofChange underSpoilTwiceSpec)

/-- ITS FALSE NEIGHBOUR: 'it returns false'. Refute it at one input. -/
def underSpoilTwiceWrong : ChangeSpec := { name := "underSpoilTwice", fn := fun _ => fun
  | [d1, d2, d3] => { results := [.lit (.bool false)], args := [d1, d2, d3] }
  | _ => none }
def UnderSpoilTwiceWrongFalsely : Prop := underSpoilTwiceRow.holds Try.pinned (OpenSpec.ofChange underSpoilTwiceWrong)

/-- 'weftlaw18.UnderFills': WHATEVER THE INPUT: true; the input reads as it did. -/
def underFillsSpec : ChangeSpec := { name := "underFills", fn := fun _ => fun
  | [d1, d2] => { results := [.lit (.bool true)], args := [d1, d2] }
  | _ => none }
def underFillsRow : OpenClaim := { program := "ytgnndggbjipioaa", sum := "59f1006afabf703c65b7b22d9f85a9d0f11608c8903a9d2513a64228e1c27922", func := "weft/weftlaw18.UnderFills", spec := "underFills", apart := false }
def UnderFillsSaid : Prop := underFillsRow.holds Try.pinned (OpenSpec.ofChange underFillsSpec)

/-- ITS FALSE NEIGHBOUR: 'it returns false'. Refute it at one input. -/
def underFillsWrong : ChangeSpec := { name := "underFills", fn := fun _ => fun
  | [d1, d2] => { results := [.lit (.bool false)], args := [d1, d2] }
  | _ => none }
def UnderFillsWrongFalsely : Prop := underFillsRow.holds Try.pinned (OpenSpec.ofChange underFillsWrong)

/-- 'weftlaw18.UnderFresh': WHATEVER THE INPUT: true; the input reads as it did. -/
def underFreshSpec : ChangeSpec := { name := "underFresh", fn := fun _ => fun
  | [d1, d2] => { results := [.lit (.bool true)], args := [d1, d2] }
  | _ => none }
def underFreshRow : OpenClaim := { program := "ytgnndggbjipioaa", sum := "59f1006afabf703c65b7b22d9f85a9d0f11608c8903a9d2513a64228e1c27922", func := "weft/weftlaw18.UnderFresh", spec := "underFresh", apart := false }
def UnderFreshSaid : Prop := underFreshRow.holds Try.pinned (OpenSpec.ofChange underFreshSpec)

/-- ITS FALSE NEIGHBOUR: 'it returns false'. Refute it at one input. -/
def underFreshWrong : ChangeSpec := { name := "underFresh", fn := fun _ => fun
  | [d1, d2] => { results := [.lit (.bool false)], args := [d1, d2] }
  | _ => none }
def UnderFreshWrongFalsely : Prop := underFreshRow.holds Try.pinned (OpenSpec.ofChange underFreshWrong)

/- THE SECOND FORM. 'bulk': how many values and letters a reading holds, each counted each time it is reached (what is shared counts as often as it is met; a slice's spare places count too). A statement '..UptoSaid' is the law's where the arguments, and the package variables that the reading takes, are together of bulk at most 1048576: NARROWER than '..Said'. Prove '..Said' where nothing that the law and all that it calls make is longer than what came in: it says more and counts as full. Else prove '..UptoSaid'. A law counts once. -/
mutual
def uptoBulk {H : Type} : DataW H → Nat
  | .lit (.string bytes) => bytes.length + 1
  | .lit _ => 1
  | .nil => 1
  | .ptr d => uptoBulk d + 1
  | .slice elems spare => uptoBulkAll elems + uptoBulkAll spare + 1
  | .agg parts => uptoBulkAll parts + 1
  | .iface _ d => uptoBulk d + 1
  | .map entries => uptoBulkEntries entries + 1
  | .held _ => 1
def uptoBulkAll {H : Type} : List (DataW H) → Nat
  | [] => 0
  | d :: r => uptoBulk d + uptoBulkAll r
def uptoBulkEntries {H : Type} : List (Lit × DataW H) → Nat
  | [] => 0
  | x :: r => uptoBulkEntry x + uptoBulkEntries r
def uptoBulkEntry {H : Type} : Lit × DataW H → Nat
  | (.string bytes, d) => bytes.length + uptoBulk d + 1
  | (_, d) => uptoBulk d + 1
 end
def uptoSmall : (H : Type) → List (DataW H) → Bool := fun _ ds => decide (uptoBulkAll ds ≤ 1048576)
def OpenSpec.upto (s : _root_.Go.ChangeSpec) : _root_.Go.OpenSpec := { _root_.Go.OpenSpec.ofChange s with cond := some uptoSmall }

/-- 'weftlaw0.Names', WHERE WHAT IT READS IS OF BULK AT MOST 1048576: true; the input reads as it did. -/
def namesUptoRow : OpenClaim := { program := "ytgnndggbjipioaa", sum := "59f1006afabf703c65b7b22d9f85a9d0f11608c8903a9d2513a64228e1c27922", func := "weft/weftlaw0.Names", spec := "names", apart := false, narrowed := true }
def NamesUptoSaid : Prop := namesUptoRow.holds Try.pinned (OpenSpec.upto namesSpec)

/-- 'weftlaw18.UnderNews', WHERE WHAT IT READS IS OF BULK AT MOST 1048576: true; the input reads as it did. -/
def underNewsUptoRow : OpenClaim := { program := "ytgnndggbjipioaa", sum := "59f1006afabf703c65b7b22d9f85a9d0f11608c8903a9d2513a64228e1c27922", func := "weft/weftlaw18.UnderNews", spec := "underNews", apart := false, narrowed := true }
def UnderNewsUptoSaid : Prop := underNewsUptoRow.holds Try.pinned (OpenSpec.upto underNewsSpec)

/-- 'weftlaw18.UnderPuts', WHERE WHAT IT READS IS OF BULK AT MOST 1048576: true; the input reads as it did. -/
def underPutsUptoRow : OpenClaim := { program := "ytgnndggbjipioaa", sum := "59f1006afabf703c65b7b22d9f85a9d0f11608c8903a9d2513a64228e1c27922", func := "weft/weftlaw18.UnderPuts", spec := "underPuts", apart := false, narrowed := true }
def UnderPutsUptoSaid : Prop := underPutsUptoRow.holds Try.pinned (OpenSpec.upto underPutsSpec)

/-- 'weftlaw18.UnderTakes', WHERE WHAT IT READS IS OF BULK AT MOST 1048576: true; the input reads as it did. -/
def underTakesUptoRow : OpenClaim := { program := "ytgnndggbjipioaa", sum := "59f1006afabf703c65b7b22d9f85a9d0f11608c8903a9d2513a64228e1c27922", func := "weft/weftlaw18.UnderTakes", spec := "underTakes", apart := false, narrowed := true }
def UnderTakesUptoSaid : Prop := underTakesUptoRow.holds Try.pinned (OpenSpec.upto underTakesSpec)

/-- 'weftlaw18.UnderChances', WHERE WHAT IT READS IS OF BULK AT MOST 1048576: true; the input reads as it did. -/
def underChancesUptoRow : OpenClaim := { program := "ytgnndggbjipioaa", sum := "59f1006afabf703c65b7b22d9f85a9d0f11608c8903a9d2513a64228e1c27922", func := "weft/weftlaw18.UnderChances", spec := "underChances", apart := false, narrowed := true }
def UnderChancesUptoSaid : Prop := underChancesUptoRow.holds Try.pinned (OpenSpec.upto underChancesSpec)

/-- 'weftlaw18.UnderLists', WHERE WHAT IT READS IS OF BULK AT MOST 1048576: true; the input reads as it did. -/
def underListsUptoRow : OpenClaim := { program := "ytgnndggbjipioaa", sum := "59f1006afabf703c65b7b22d9f85a9d0f11608c8903a9d2513a64228e1c27922", func := "weft/weftlaw18.UnderLists", spec := "underLists", apart := false, narrowed := true }
def UnderListsUptoSaid : Prop := underListsUptoRow.holds Try.pinned (OpenSpec.upto underListsSpec)

/-- 'weftlaw18.UnderAll', WHERE WHAT IT READS IS OF BULK AT MOST 1048576: true; the input reads as it did. -/
def underAllUptoRow : OpenClaim := { program := "ytgnndggbjipioaa", sum := "59f1006afabf703c65b7b22d9f85a9d0f11608c8903a9d2513a64228e1c27922", func := "weft/weftlaw18.UnderAll", spec := "underAll", apart := false, narrowed := true }
def UnderAllUptoSaid : Prop := underAllUptoRow.holds Try.pinned (OpenSpec.upto underAllSpec)

/-- 'weftlaw18.UnderTwo', WHERE WHAT IT READS IS OF BULK AT MOST 1048576: true; the input reads as it did. -/
def underTwoUptoRow : OpenClaim := { program := "ytgnndggbjipioaa", sum := "59f1006afabf703c65b7b22d9f85a9d0f11608c8903a9d2513a64228e1c27922", func := "weft/weftlaw18.UnderTwo", spec := "underTwo", apart := false, narrowed := true }
def UnderTwoUptoSaid : Prop := underTwoUptoRow.holds Try.pinned (OpenSpec.upto underTwoSpec)

/-- 'weftlaw18.UnderFrame', WHERE WHAT IT READS IS OF BULK AT MOST 1048576: true; the input reads as it did. -/
def underFrameUptoRow : OpenClaim := { program := "ytgnndggbjipioaa", sum := "59f1006afabf703c65b7b22d9f85a9d0f11608c8903a9d2513a64228e1c27922", func := "weft/weftlaw18.UnderFrame", spec := "underFrame", apart := false, narrowed := true }
def UnderFrameUptoSaid : Prop := underFrameUptoRow.holds Try.pinned (OpenSpec.upto underFrameSpec)

/-- 'weftlaw18.UnderCounts', WHERE WHAT IT READS IS OF BULK AT MOST 1048576: true; the input reads as it did. -/
def underCountsUptoRow : OpenClaim := { program := "ytgnndggbjipioaa", sum := "59f1006afabf703c65b7b22d9f85a9d0f11608c8903a9d2513a64228e1c27922", func := "weft/weftlaw18.UnderCounts", spec := "underCounts", apart := false, narrowed := true }
def UnderCountsUptoSaid : Prop := underCountsUptoRow.holds Try.pinned (OpenSpec.upto underCountsSpec)

/-- 'weftlaw18.UnderOrder', WHERE WHAT IT READS IS OF BULK AT MOST 1048576: true; the input reads as it did. -/
def underOrderUptoRow : OpenClaim := { program := "ytgnndggbjipioaa", sum := "59f1006afabf703c65b7b22d9f85a9d0f11608c8903a9d2513a64228e1c27922", func := "weft/weftlaw18.UnderOrder", spec := "underOrder", apart := false, narrowed := true }
def UnderOrderUptoSaid : Prop := underOrderUptoRow.holds Try.pinned (OpenSpec.upto underOrderSpec)

/-- 'weftlaw18.UnderSpoilTwice', WHERE WHAT IT READS IS OF BULK AT MOST 1048576: true; the input reads as it did. -/
def underSpoilTwiceUptoRow : OpenClaim := { program := "ytgnndggbjipioaa", sum := "59f1006afabf703c65b7b22d9f85a9d0f11608c8903a9d2513a64228e1c27922", func := "weft/weftlaw18.UnderSpoilTwice", spec := "underSpoilTwice", apart := false, narrowed := true }
def UnderSpoilTwiceUptoSaid : Prop := underSpoilTwiceUptoRow.holds Try.pinned (OpenSpec.upto underSpoilTwiceSpec)

/-- 'weftlaw18.UnderFills', WHERE WHAT IT READS IS OF BULK AT MOST 1048576: true; the input reads as it did. -/
def underFillsUptoRow : OpenClaim := { program := "ytgnndggbjipioaa", sum := "59f1006afabf703c65b7b22d9f85a9d0f11608c8903a9d2513a64228e1c27922", func := "weft/weftlaw18.UnderFills", spec := "underFills", apart := false, narrowed := true }
def UnderFillsUptoSaid : Prop := underFillsUptoRow.holds Try.pinned (OpenSpec.upto underFillsSpec)

/-- 'weftlaw18.UnderFresh', WHERE WHAT IT READS IS OF BULK AT MOST 1048576: true; the input reads as it did. -/
def underFreshUptoRow : OpenClaim := { program := "ytgnndggbjipioaa", sum := "59f1006afabf703c65b7b22d9f85a9d0f11608c8903a9d2513a64228e1c27922", func := "weft/weftlaw18.UnderFresh", spec := "underFresh", apart := false, narrowed := true }
def UnderFreshUptoSaid : Prop := underFreshUptoRow.holds Try.pinned (OpenSpec.upto underFreshSpec)

end Rows
end Go.Proofs.Ytgnndggbjipioaa
