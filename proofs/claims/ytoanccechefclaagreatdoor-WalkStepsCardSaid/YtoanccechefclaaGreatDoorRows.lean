/-
  NARROWER THAN 'FOR EVERY INPUT', by the rows' own cells (each row's printed sentence says how): WalkParts: laid · WalkRoots: laid · WalkSteps: laid · WalkerTwice: laid · WalkerDisturbed: laid · WalkerNumbers: laid · WalkerRename: laid · WalkerAlone: laid.
  DERIVED. THE GIVEN ROWS OF THIS SEAT. 8 by the template 'for every input the law returns true; each argument reads behind the call as it read before'; 0 by the template 'total and deterministic' (their statements: YtoanccechefclaaGreatDoorTotals.lean).
  GIVEN WITH THE SEED: the statements are not yours to turn. If you find one false, say at which input.
  Laid BY PROGRAM, IN A SANDBOX (cutbox-rows.mjs): the forced cells as the released guide's own fill.sh prints them over the translation 92dff38f1d472aba… (all of the seat's roots in one cut). By AI agents, Wed Nov 11 2026. No macro, syntax, notation, axiom, sorry.
-/
import Derived.Test.YtoanccechefclaaGreatDoorChecked
import GoSem.PinnedTables
import GoSem.Claim
import GoSem.ClaimJoined
import GoSem.ClaimMapViews
import Derived.JoinedTies
import Derived.KernelRfl
namespace Go.Proofs.YtoanccechefclaaGreatDoor
/- THE CELL 'sum', in the pinned program and in every row, IS THE sha256 OF THE DUMP (.gsa) THAT YtoanccechefclaaGreatDoorProg.lean LOADS. Nothing in Lean hashes anything: it is a label: what it is worth is what the hold of that sum in a sandbox is worth. -/
noncomputable def Tryz.pinned : Pinned := { name := "ytoanccechefclaagreatdoor", sum := "92dff38f1d472abafd71f7b1ab5ca6632a6e0c8eb2ed26c9fd72261f01bcb126", checked := Tryz.checked }
namespace Rows
def none {H : Type} : Left H := { results := [], args := [] }

/- WHAT THE LISTED PACKAGE-LEVEL VARIABLES READ AS WHEN THE CALL BEGINS. Each datum BY PROGRAM (the guide's laid-datum.mjs) off the statement by which the dump's own 'gosem.cut.vars' lays the variable. In a bare row this is a premise. The card (YtoanccechefclaaGreatDoorCards.lean) ties it to the program's text. -/
def laid_unicode_utf8_acceptRanges {H : Type} : DataW H := .agg [.agg [.lit (.int .u8 128), .lit (.int .u8 191)], .agg [.lit (.int .u8 160), .lit (.int .u8 191)], .agg [.lit (.int .u8 128), .lit (.int .u8 159)], .agg [.lit (.int .u8 144), .lit (.int .u8 191)], .agg [.lit (.int .u8 128), .lit (.int .u8 143)], .agg [.lit (.int .u8 0), .lit (.int .u8 0)], .agg [.lit (.int .u8 0), .lit (.int .u8 0)], .agg [.lit (.int .u8 0), .lit (.int .u8 0)], .agg [.lit (.int .u8 0), .lit (.int .u8 0)], .agg [.lit (.int .u8 0), .lit (.int .u8 0)], .agg [.lit (.int .u8 0), .lit (.int .u8 0)], .agg [.lit (.int .u8 0), .lit (.int .u8 0)], .agg [.lit (.int .u8 0), .lit (.int .u8 0)], .agg [.lit (.int .u8 0), .lit (.int .u8 0)], .agg [.lit (.int .u8 0), .lit (.int .u8 0)], .agg [.lit (.int .u8 0), .lit (.int .u8 0)]]
/-- One of Go's own tables, pinned by name: the form's constant. -/
def laid_unicode_utf8_first : DataW Unit := Go.Pinned.utf8First

/-- 'warrenlaw12.WalkParts': WHATEVER THE INPUT: true; the input reads as it did. -/
def walkPartsSpec : ChangeSpec := { name := "walkParts", fn := fun _ => fun
  | [d1, d2, d3, d4] => { results := [.lit (.bool true)], args := [d1, d2, d3, d4] }
  | _ => none }
def walkPartsRow : OpenClaim := { program := "ytoanccechefclaagreatdoor", sum := "92dff38f1d472abafd71f7b1ab5ca6632a6e0c8eb2ed26c9fd72261f01bcb126", func := "warren/warrenlaw12.WalkParts", spec := "walkParts", inPlace := ["internal/bytealg.IndexByteString", "internal/bytealg.IndexString", "internal/abi.NoEscape", "internal/bytealg.MakeNoZero"], unfollowed := true, recurses := true, named := ["unicode/utf8.first", "unicode/utf8.acceptRanges", "internal/bytealg.MaxLen"], apart := false, laid := [("unicode/utf8.acceptRanges", laid_unicode_utf8_acceptRanges), ("unicode/utf8.first", laid_unicode_utf8_first)] }
def WalkPartsSaid : Prop := walkPartsRow.holds Tryz.pinned (OpenSpec.ofChange walkPartsSpec)

/-- ITS FALSE NEIGHBOUR: 'it returns false'. Refute it at one input. -/
def walkPartsWrong : ChangeSpec := { name := "walkParts", fn := fun _ => fun
  | [d1, d2, d3, d4] => { results := [.lit (.bool false)], args := [d1, d2, d3, d4] }
  | _ => none }
def WalkPartsWrongFalsely : Prop := walkPartsRow.holds Tryz.pinned (OpenSpec.ofChange walkPartsWrong)

/-- 'warrenlaw12.WalkRoots': WHATEVER THE INPUT: true; the input reads as it did. -/
def walkRootsSpec : ChangeSpec := { name := "walkRoots", fn := fun _ => fun
  | [d1, d2, d3, d4, d5] => { results := [.lit (.bool true)], args := [d1, d2, d3, d4, d5] }
  | _ => none }
def walkRootsRow : OpenClaim := { program := "ytoanccechefclaagreatdoor", sum := "92dff38f1d472abafd71f7b1ab5ca6632a6e0c8eb2ed26c9fd72261f01bcb126", func := "warren/warrenlaw12.WalkRoots", spec := "walkRoots", inPlace := ["internal/bytealg.IndexByteString", "internal/bytealg.IndexString", "internal/abi.NoEscape", "internal/bytealg.MakeNoZero"], unfollowed := true, recurses := true, named := ["unicode/utf8.first", "unicode/utf8.acceptRanges", "internal/bytealg.MaxLen"], apart := false, laid := [("unicode/utf8.acceptRanges", laid_unicode_utf8_acceptRanges), ("unicode/utf8.first", laid_unicode_utf8_first)] }
def WalkRootsSaid : Prop := walkRootsRow.holds Tryz.pinned (OpenSpec.ofChange walkRootsSpec)

/-- ITS FALSE NEIGHBOUR: 'it returns false'. Refute it at one input. -/
def walkRootsWrong : ChangeSpec := { name := "walkRoots", fn := fun _ => fun
  | [d1, d2, d3, d4, d5] => { results := [.lit (.bool false)], args := [d1, d2, d3, d4, d5] }
  | _ => none }
def WalkRootsWrongFalsely : Prop := walkRootsRow.holds Tryz.pinned (OpenSpec.ofChange walkRootsWrong)

/-- 'warrenlaw12.WalkSteps': WHATEVER THE INPUT: true; the input reads as it did. -/
def walkStepsSpec : ChangeSpec := { name := "walkSteps", fn := fun _ => fun
  | [d1, d2, d3, d4] => { results := [.lit (.bool true)], args := [d1, d2, d3, d4] }
  | _ => none }
def walkStepsRow : OpenClaim := { program := "ytoanccechefclaagreatdoor", sum := "92dff38f1d472abafd71f7b1ab5ca6632a6e0c8eb2ed26c9fd72261f01bcb126", func := "warren/warrenlaw12.WalkSteps", spec := "walkSteps", inPlace := ["internal/bytealg.IndexByteString", "internal/bytealg.IndexString", "internal/abi.NoEscape", "internal/bytealg.MakeNoZero"], unfollowed := true, recurses := true, named := ["unicode/utf8.first", "unicode/utf8.acceptRanges", "internal/bytealg.MaxLen"], apart := false, laid := [("unicode/utf8.acceptRanges", laid_unicode_utf8_acceptRanges), ("unicode/utf8.first", laid_unicode_utf8_first)] }
def WalkStepsSaid : Prop := walkStepsRow.holds Tryz.pinned (OpenSpec.ofChange walkStepsSpec)

/-- ITS FALSE NEIGHBOUR: 'it returns false'. Refute it at one input. -/
def walkStepsWrong : ChangeSpec := { name := "walkSteps", fn := fun _ => fun
  | [d1, d2, d3, d4] => { results := [.lit (.bool false)], args := [d1, d2, d3, d4] }
  | _ => none }
def WalkStepsWrongFalsely : Prop := walkStepsRow.holds Tryz.pinned (OpenSpec.ofChange walkStepsWrong)

/-- 'warrenlaw22.WalkerTwice': WHATEVER THE INPUT: true; the input reads as it did. -/
def walkerTwiceSpec : ChangeSpec := { name := "walkerTwice", fn := fun _ => fun
  | [d1, d2, d3, d4] => { results := [.lit (.bool true)], args := [d1, d2, d3, d4] }
  | _ => none }
def walkerTwiceRow : OpenClaim := { program := "ytoanccechefclaagreatdoor", sum := "92dff38f1d472abafd71f7b1ab5ca6632a6e0c8eb2ed26c9fd72261f01bcb126", func := "warren/warrenlaw22.WalkerTwice", spec := "walkerTwice", inPlace := ["internal/bytealg.IndexByteString", "internal/bytealg.IndexString", "internal/abi.NoEscape", "internal/bytealg.MakeNoZero"], unfollowed := true, recurses := true, named := ["unicode/utf8.first", "unicode/utf8.acceptRanges", "internal/bytealg.MaxLen"], apart := false, laid := [("unicode/utf8.acceptRanges", laid_unicode_utf8_acceptRanges), ("unicode/utf8.first", laid_unicode_utf8_first)] }
def WalkerTwiceSaid : Prop := walkerTwiceRow.holds Tryz.pinned (OpenSpec.ofChange walkerTwiceSpec)

/-- ITS FALSE NEIGHBOUR: 'it returns false'. Refute it at one input. -/
def walkerTwiceWrong : ChangeSpec := { name := "walkerTwice", fn := fun _ => fun
  | [d1, d2, d3, d4] => { results := [.lit (.bool false)], args := [d1, d2, d3, d4] }
  | _ => none }
def WalkerTwiceWrongFalsely : Prop := walkerTwiceRow.holds Tryz.pinned (OpenSpec.ofChange walkerTwiceWrong)

/-- 'warrenlaw22.WalkerDisturbed': WHATEVER THE INPUT: true; the input reads as it did. -/
def walkerDisturbedSpec : ChangeSpec := { name := "walkerDisturbed", fn := fun _ => fun
  | [d1, d2, d3, d4, d5, d6] => { results := [.lit (.bool true)], args := [d1, d2, d3, d4, d5, d6] }
  | _ => none }
def walkerDisturbedRow : OpenClaim := { program := "ytoanccechefclaagreatdoor", sum := "92dff38f1d472abafd71f7b1ab5ca6632a6e0c8eb2ed26c9fd72261f01bcb126", func := "warren/warrenlaw22.WalkerDisturbed", spec := "walkerDisturbed", inPlace := ["internal/bytealg.IndexByteString", "internal/bytealg.IndexString", "internal/abi.NoEscape", "internal/bytealg.MakeNoZero"], unfollowed := true, recurses := true, named := ["unicode/utf8.first", "unicode/utf8.acceptRanges", "internal/bytealg.MaxLen"], apart := false, laid := [("unicode/utf8.acceptRanges", laid_unicode_utf8_acceptRanges), ("unicode/utf8.first", laid_unicode_utf8_first)] }
def WalkerDisturbedSaid : Prop := walkerDisturbedRow.holds Tryz.pinned (OpenSpec.ofChange walkerDisturbedSpec)

/-- ITS FALSE NEIGHBOUR: 'it returns false'. Refute it at one input. -/
def walkerDisturbedWrong : ChangeSpec := { name := "walkerDisturbed", fn := fun _ => fun
  | [d1, d2, d3, d4, d5, d6] => { results := [.lit (.bool false)], args := [d1, d2, d3, d4, d5, d6] }
  | _ => none }
def WalkerDisturbedWrongFalsely : Prop := walkerDisturbedRow.holds Tryz.pinned (OpenSpec.ofChange walkerDisturbedWrong)

/-- 'warrenlaw22.WalkerNumbers': WHATEVER THE INPUT: true; the input reads as it did. -/
def walkerNumbersSpec : ChangeSpec := { name := "walkerNumbers", fn := fun _ => fun
  | [] => { results := [.lit (.bool true)], args := [] }
  | _ => none }
def walkerNumbersRow : OpenClaim := { program := "ytoanccechefclaagreatdoor", sum := "92dff38f1d472abafd71f7b1ab5ca6632a6e0c8eb2ed26c9fd72261f01bcb126", func := "warren/warrenlaw22.WalkerNumbers", spec := "walkerNumbers", inPlace := ["internal/bytealg.IndexByteString", "internal/bytealg.IndexString", "internal/abi.NoEscape", "internal/bytealg.MakeNoZero"], unfollowed := true, recurses := true, named := ["unicode/utf8.first", "unicode/utf8.acceptRanges", "internal/bytealg.MaxLen"], apart := false, laid := [("unicode/utf8.acceptRanges", laid_unicode_utf8_acceptRanges), ("unicode/utf8.first", laid_unicode_utf8_first)] }
def WalkerNumbersSaid : Prop := walkerNumbersRow.holds Tryz.pinned (OpenSpec.ofChange walkerNumbersSpec)

/-- ITS FALSE NEIGHBOUR: 'it returns false'. Refute it at one input. -/
def walkerNumbersWrong : ChangeSpec := { name := "walkerNumbers", fn := fun _ => fun
  | [] => { results := [.lit (.bool false)], args := [] }
  | _ => none }
def WalkerNumbersWrongFalsely : Prop := walkerNumbersRow.holds Tryz.pinned (OpenSpec.ofChange walkerNumbersWrong)

/-- 'warrenlaw22.WalkerRename': WHATEVER THE INPUT: true; the input reads as it did. -/
def walkerRenameSpec : ChangeSpec := { name := "walkerRename", fn := fun _ => fun
  | [d1, d2, d3] => { results := [.lit (.bool true)], args := [d1, d2, d3] }
  | _ => none }
def walkerRenameRow : OpenClaim := { program := "ytoanccechefclaagreatdoor", sum := "92dff38f1d472abafd71f7b1ab5ca6632a6e0c8eb2ed26c9fd72261f01bcb126", func := "warren/warrenlaw22.WalkerRename", spec := "walkerRename", inPlace := ["internal/bytealg.IndexByteString", "internal/bytealg.IndexString", "internal/abi.NoEscape", "internal/bytealg.MakeNoZero"], unfollowed := true, recurses := true, named := ["unicode/utf8.first", "unicode/utf8.acceptRanges", "internal/bytealg.MaxLen"], apart := false, laid := [("unicode/utf8.acceptRanges", laid_unicode_utf8_acceptRanges), ("unicode/utf8.first", laid_unicode_utf8_first)] }
def WalkerRenameSaid : Prop := walkerRenameRow.holds Tryz.pinned (OpenSpec.ofChange walkerRenameSpec)

/-- ITS FALSE NEIGHBOUR: 'it returns false'. Refute it at one input. -/
def walkerRenameWrong : ChangeSpec := { name := "walkerRename", fn := fun _ => fun
  | [d1, d2, d3] => { results := [.lit (.bool false)], args := [d1, d2, d3] }
  | _ => none }
def WalkerRenameWrongFalsely : Prop := walkerRenameRow.holds Tryz.pinned (OpenSpec.ofChange walkerRenameWrong)

/-- 'warrenlaw22.WalkerAlone': WHATEVER THE INPUT: true; the input reads as it did. -/
def walkerAloneSpec : ChangeSpec := { name := "walkerAlone", fn := fun _ => fun
  | [d1, d2, d3, d4, d5] => { results := [.lit (.bool true)], args := [d1, d2, d3, d4, d5] }
  | _ => none }
def walkerAloneRow : OpenClaim := { program := "ytoanccechefclaagreatdoor", sum := "92dff38f1d472abafd71f7b1ab5ca6632a6e0c8eb2ed26c9fd72261f01bcb126", func := "warren/warrenlaw22.WalkerAlone", spec := "walkerAlone", inPlace := ["internal/bytealg.IndexByteString", "internal/bytealg.IndexString", "internal/abi.NoEscape", "internal/bytealg.MakeNoZero"], unfollowed := true, recurses := true, named := ["unicode/utf8.first", "unicode/utf8.acceptRanges", "internal/bytealg.MaxLen"], apart := false, laid := [("unicode/utf8.acceptRanges", laid_unicode_utf8_acceptRanges), ("unicode/utf8.first", laid_unicode_utf8_first)] }
def WalkerAloneSaid : Prop := walkerAloneRow.holds Tryz.pinned (OpenSpec.ofChange walkerAloneSpec)

/-- ITS FALSE NEIGHBOUR: 'it returns false'. Refute it at one input. -/
def walkerAloneWrong : ChangeSpec := { name := "walkerAlone", fn := fun _ => fun
  | [d1, d2, d3, d4, d5] => { results := [.lit (.bool false)], args := [d1, d2, d3, d4, d5] }
  | _ => none }
def WalkerAloneWrongFalsely : Prop := walkerAloneRow.holds Tryz.pinned (OpenSpec.ofChange walkerAloneWrong)

/- THE SECOND FORM. 'bulk': how many values and letters a reading holds, each counted each time it is reached (what is shared counts as often as it is met; a slice's spare places count too). A statement '..UptoSaid' is the law's where the arguments, and the package variables that the reading takes, are together of bulk at most 1048576: NARROWER than '..Said'. Prove '..Said' where nothing that the law and all that it calls make is longer than what came in: it says more and counts as full. Else prove '..UptoSaid'. A law counts once. -/
mutual
def uptoBulk {H : Type} : DataW H → Nat
  | .lit (.string bytes) => bytes.length + 1
  | .lit _ => 1
  | .nil => 1
  | .ptr d => uptoBulk d + 1
  | .slice elems spare => uptoBulkAll elems + uptoBulkAll spare + 1
  | .agg parts => uptoBulkAll parts + 1
  | .iface _ d => uptoBulk d + 1
  | .map entries => uptoBulkEntries entries + 1
  | .held _ => 1
def uptoBulkAll {H : Type} : List (DataW H) → Nat
  | [] => 0
  | d :: r => uptoBulk d + uptoBulkAll r
def uptoBulkEntries {H : Type} : List (Lit × DataW H) → Nat
  | [] => 0
  | x :: r => uptoBulkEntry x + uptoBulkEntries r
def uptoBulkEntry {H : Type} : Lit × DataW H → Nat
  | (.string bytes, d) => bytes.length + uptoBulk d + 1
  | (_, d) => uptoBulk d + 1
 end
def uptoSmall : (H : Type) → List (DataW H) → Bool := fun _ ds => decide (uptoBulkAll ds ≤ 1048576)
def OpenSpec.upto (s : _root_.Go.ChangeSpec) : _root_.Go.OpenSpec := { _root_.Go.OpenSpec.ofChange s with cond := some uptoSmall }

/-- 'warrenlaw12.WalkParts', WHERE WHAT IT READS IS OF BULK AT MOST 1048576: true; the input reads as it did. -/
def walkPartsUptoRow : OpenClaim := { program := "ytoanccechefclaagreatdoor", sum := "92dff38f1d472abafd71f7b1ab5ca6632a6e0c8eb2ed26c9fd72261f01bcb126", func := "warren/warrenlaw12.WalkParts", spec := "walkParts", inPlace := ["internal/bytealg.IndexByteString", "internal/bytealg.IndexString", "internal/abi.NoEscape", "internal/bytealg.MakeNoZero"], unfollowed := true, recurses := true, named := ["unicode/utf8.first", "unicode/utf8.acceptRanges", "internal/bytealg.MaxLen"], apart := false, laid := [("unicode/utf8.acceptRanges", laid_unicode_utf8_acceptRanges), ("unicode/utf8.first", laid_unicode_utf8_first)], narrowed := true }
def WalkPartsUptoSaid : Prop := walkPartsUptoRow.holds Tryz.pinned (OpenSpec.upto walkPartsSpec)

/-- 'warrenlaw12.WalkRoots', WHERE WHAT IT READS IS OF BULK AT MOST 1048576: true; the input reads as it did. -/
def walkRootsUptoRow : OpenClaim := { program := "ytoanccechefclaagreatdoor", sum := "92dff38f1d472abafd71f7b1ab5ca6632a6e0c8eb2ed26c9fd72261f01bcb126", func := "warren/warrenlaw12.WalkRoots", spec := "walkRoots", inPlace := ["internal/bytealg.IndexByteString", "internal/bytealg.IndexString", "internal/abi.NoEscape", "internal/bytealg.MakeNoZero"], unfollowed := true, recurses := true, named := ["unicode/utf8.first", "unicode/utf8.acceptRanges", "internal/bytealg.MaxLen"], apart := false, laid := [("unicode/utf8.acceptRanges", laid_unicode_utf8_acceptRanges), ("unicode/utf8.first", laid_unicode_utf8_first)], narrowed := true }
def WalkRootsUptoSaid : Prop := walkRootsUptoRow.holds Tryz.pinned (OpenSpec.upto walkRootsSpec)

/-- 'warrenlaw12.WalkSteps', WHERE WHAT IT READS IS OF BULK AT MOST 1048576: true; the input reads as it did. -/
def walkStepsUptoRow : OpenClaim := { program := "ytoanccechefclaagreatdoor", sum := "92dff38f1d472abafd71f7b1ab5ca6632a6e0c8eb2ed26c9fd72261f01bcb126", func := "warren/warrenlaw12.WalkSteps", spec := "walkSteps", inPlace := ["internal/bytealg.IndexByteString", "internal/bytealg.IndexString", "internal/abi.NoEscape", "internal/bytealg.MakeNoZero"], unfollowed := true, recurses := true, named := ["unicode/utf8.first", "unicode/utf8.acceptRanges", "internal/bytealg.MaxLen"], apart := false, laid := [("unicode/utf8.acceptRanges", laid_unicode_utf8_acceptRanges), ("unicode/utf8.first", laid_unicode_utf8_first)], narrowed := true }
def WalkStepsUptoSaid : Prop := walkStepsUptoRow.holds Tryz.pinned (OpenSpec.upto walkStepsSpec)

/-- 'warrenlaw22.WalkerTwice', WHERE WHAT IT READS IS OF BULK AT MOST 1048576: true; the input reads as it did. -/
def walkerTwiceUptoRow : OpenClaim := { program := "ytoanccechefclaagreatdoor", sum := "92dff38f1d472abafd71f7b1ab5ca6632a6e0c8eb2ed26c9fd72261f01bcb126", func := "warren/warrenlaw22.WalkerTwice", spec := "walkerTwice", inPlace := ["internal/bytealg.IndexByteString", "internal/bytealg.IndexString", "internal/abi.NoEscape", "internal/bytealg.MakeNoZero"], unfollowed := true, recurses := true, named := ["unicode/utf8.first", "unicode/utf8.acceptRanges", "internal/bytealg.MaxLen"], apart := false, laid := [("unicode/utf8.acceptRanges", laid_unicode_utf8_acceptRanges), ("unicode/utf8.first", laid_unicode_utf8_first)], narrowed := true }
def WalkerTwiceUptoSaid : Prop := walkerTwiceUptoRow.holds Tryz.pinned (OpenSpec.upto walkerTwiceSpec)

/-- 'warrenlaw22.WalkerDisturbed', WHERE WHAT IT READS IS OF BULK AT MOST 1048576: true; the input reads as it did. -/
def walkerDisturbedUptoRow : OpenClaim := { program := "ytoanccechefclaagreatdoor", sum := "92dff38f1d472abafd71f7b1ab5ca6632a6e0c8eb2ed26c9fd72261f01bcb126", func := "warren/warrenlaw22.WalkerDisturbed", spec := "walkerDisturbed", inPlace := ["internal/bytealg.IndexByteString", "internal/bytealg.IndexString", "internal/abi.NoEscape", "internal/bytealg.MakeNoZero"], unfollowed := true, recurses := true, named := ["unicode/utf8.first", "unicode/utf8.acceptRanges", "internal/bytealg.MaxLen"], apart := false, laid := [("unicode/utf8.acceptRanges", laid_unicode_utf8_acceptRanges), ("unicode/utf8.first", laid_unicode_utf8_first)], narrowed := true }
def WalkerDisturbedUptoSaid : Prop := walkerDisturbedUptoRow.holds Tryz.pinned (OpenSpec.upto walkerDisturbedSpec)

/-- 'warrenlaw22.WalkerNumbers', WHERE WHAT IT READS IS OF BULK AT MOST 1048576: true; the input reads as it did. -/
def walkerNumbersUptoRow : OpenClaim := { program := "ytoanccechefclaagreatdoor", sum := "92dff38f1d472abafd71f7b1ab5ca6632a6e0c8eb2ed26c9fd72261f01bcb126", func := "warren/warrenlaw22.WalkerNumbers", spec := "walkerNumbers", inPlace := ["internal/bytealg.IndexByteString", "internal/bytealg.IndexString", "internal/abi.NoEscape", "internal/bytealg.MakeNoZero"], unfollowed := true, recurses := true, named := ["unicode/utf8.first", "unicode/utf8.acceptRanges", "internal/bytealg.MaxLen"], apart := false, laid := [("unicode/utf8.acceptRanges", laid_unicode_utf8_acceptRanges), ("unicode/utf8.first", laid_unicode_utf8_first)], narrowed := true }
def WalkerNumbersUptoSaid : Prop := walkerNumbersUptoRow.holds Tryz.pinned (OpenSpec.upto walkerNumbersSpec)

/-- 'warrenlaw22.WalkerRename', WHERE WHAT IT READS IS OF BULK AT MOST 1048576: true; the input reads as it did. -/
def walkerRenameUptoRow : OpenClaim := { program := "ytoanccechefclaagreatdoor", sum := "92dff38f1d472abafd71f7b1ab5ca6632a6e0c8eb2ed26c9fd72261f01bcb126", func := "warren/warrenlaw22.WalkerRename", spec := "walkerRename", inPlace := ["internal/bytealg.IndexByteString", "internal/bytealg.IndexString", "internal/abi.NoEscape", "internal/bytealg.MakeNoZero"], unfollowed := true, recurses := true, named := ["unicode/utf8.first", "unicode/utf8.acceptRanges", "internal/bytealg.MaxLen"], apart := false, laid := [("unicode/utf8.acceptRanges", laid_unicode_utf8_acceptRanges), ("unicode/utf8.first", laid_unicode_utf8_first)], narrowed := true }
def WalkerRenameUptoSaid : Prop := walkerRenameUptoRow.holds Tryz.pinned (OpenSpec.upto walkerRenameSpec)

/-- 'warrenlaw22.WalkerAlone', WHERE WHAT IT READS IS OF BULK AT MOST 1048576: true; the input reads as it did. -/
def walkerAloneUptoRow : OpenClaim := { program := "ytoanccechefclaagreatdoor", sum := "92dff38f1d472abafd71f7b1ab5ca6632a6e0c8eb2ed26c9fd72261f01bcb126", func := "warren/warrenlaw22.WalkerAlone", spec := "walkerAlone", inPlace := ["internal/bytealg.IndexByteString", "internal/bytealg.IndexString", "internal/abi.NoEscape", "internal/bytealg.MakeNoZero"], unfollowed := true, recurses := true, named := ["unicode/utf8.first", "unicode/utf8.acceptRanges", "internal/bytealg.MaxLen"], apart := false, laid := [("unicode/utf8.acceptRanges", laid_unicode_utf8_acceptRanges), ("unicode/utf8.first", laid_unicode_utf8_first)], narrowed := true }
def WalkerAloneUptoSaid : Prop := walkerAloneUptoRow.holds Tryz.pinned (OpenSpec.upto walkerAloneSpec)

end Rows
end Go.Proofs.YtoanccechefclaaGreatDoor
