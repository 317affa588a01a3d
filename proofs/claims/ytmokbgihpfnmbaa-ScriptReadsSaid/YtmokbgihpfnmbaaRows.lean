/-
  No cell of these rows narrows 'for every input' (looked for: loops, veiled, ifaces, maps, wideKeys, modest, calm, conditions, laid).
  DERIVED. THE GIVEN ROWS OF THIS SEAT. 6 by the template 'for every input the law returns true; each argument reads behind the call as it read before'; 0 by the template 'total and deterministic' (their statements: YtmokbgihpfnmbaaTotals.lean).
  GIVEN WITH THE SEED: the statements are not yours to turn. If you find one false, say at which input.
  Laid BY PROGRAM, IN A SANDBOX (cutbox-rows.mjs): the forced cells as the released guide's own fill.sh prints them over the translation 8a03a587ea893c57… (all of the seat's roots in one cut). By AI agents, Wed Nov 11 2026. No macro, syntax, notation, axiom, sorry.
-/
import Derived.Test.YtmokbgihpfnmbaaChecked
import GoSem.Claim
import GoSem.ClaimJoined
import GoSem.ClaimMapViews
import Derived.JoinedTies
import Derived.KernelRfl
namespace Go.Proofs.Ytmokbgihpfnmbaa
/- THE CELL 'sum', in the pinned program and in every row, IS THE sha256 OF THE DUMP (.gsa) THAT YtmokbgihpfnmbaaProg.lean LOADS. Nothing in Lean hashes anything: it is a label: what it is worth is what the hold of that sum in a sandbox is worth. -/
noncomputable def Try.pinned : Pinned := { name := "ytmokbgihpfnmbaa", sum := "8a03a587ea893c5796531a91ad66e7b1d32b4d8efbce4d0f95ed47049d37c340", checked := Try.checked }
namespace Rows
def none {H : Type} : Left H := { results := [], args := [] }

/-- 'warrenlaw17.ScriptReads': WHATEVER THE INPUT: true; the input reads as it did. -/
def scriptReadsSpec : ChangeSpec := { name := "scriptReads", fn := fun _ => fun
  | [d1, d2, d3, d4] => { results := [.lit (.bool true)], args := [d1, d2, d3, d4] }
  | _ => none }
def scriptReadsRow : OpenClaim := { program := "ytmokbgihpfnmbaa", sum := "8a03a587ea893c5796531a91ad66e7b1d32b4d8efbce4d0f95ed47049d37c340", func := "warren/warrenlaw17.ScriptReads", spec := "scriptReads", unfollowed := true, recurses := true, apart := false }
def ScriptReadsSaid : Prop := scriptReadsRow.holds Try.pinned (OpenSpec.ofChange scriptReadsSpec)

/-- ITS FALSE NEIGHBOUR: 'it returns false'. Refute it at one input. -/
def scriptReadsWrong : ChangeSpec := { name := "scriptReads", fn := fun _ => fun
  | [d1, d2, d3, d4] => { results := [.lit (.bool false)], args := [d1, d2, d3, d4] }
  | _ => none }
def ScriptReadsWrongFalsely : Prop := scriptReadsRow.holds Try.pinned (OpenSpec.ofChange scriptReadsWrong)

/-- 'warrenlaw17.ScriptNumbers': WHATEVER THE INPUT: true; the input reads as it did. -/
def scriptNumbersSpec : ChangeSpec := { name := "scriptNumbers", fn := fun _ => fun
  | [] => { results := [.lit (.bool true)], args := [] }
  | _ => none }
def scriptNumbersRow : OpenClaim := { program := "ytmokbgihpfnmbaa", sum := "8a03a587ea893c5796531a91ad66e7b1d32b4d8efbce4d0f95ed47049d37c340", func := "warren/warrenlaw17.ScriptNumbers", spec := "scriptNumbers", unfollowed := true, recurses := true, apart := false }
def ScriptNumbersSaid : Prop := scriptNumbersRow.holds Try.pinned (OpenSpec.ofChange scriptNumbersSpec)

/-- ITS FALSE NEIGHBOUR: 'it returns false'. Refute it at one input. -/
def scriptNumbersWrong : ChangeSpec := { name := "scriptNumbers", fn := fun _ => fun
  | [] => { results := [.lit (.bool false)], args := [] }
  | _ => none }
def ScriptNumbersWrongFalsely : Prop := scriptNumbersRow.holds Try.pinned (OpenSpec.ofChange scriptNumbersWrong)

/-- 'warrenlaw17.ScriptWrites': WHATEVER THE INPUT: true; the input reads as it did. -/
def scriptWritesSpec : ChangeSpec := { name := "scriptWrites", fn := fun _ => fun
  | [d] => { results := [.lit (.bool true)], args := [d] }
  | _ => none }
def scriptWritesRow : OpenClaim := { program := "ytmokbgihpfnmbaa", sum := "8a03a587ea893c5796531a91ad66e7b1d32b4d8efbce4d0f95ed47049d37c340", func := "warren/warrenlaw17.ScriptWrites", spec := "scriptWrites", unfollowed := true, recurses := true, apart := false }
def ScriptWritesSaid : Prop := scriptWritesRow.holds Try.pinned (OpenSpec.ofChange scriptWritesSpec)

/-- ITS FALSE NEIGHBOUR: 'it returns false'. Refute it at one input. -/
def scriptWritesWrong : ChangeSpec := { name := "scriptWrites", fn := fun _ => fun
  | [d] => { results := [.lit (.bool false)], args := [d] }
  | _ => none }
def ScriptWritesWrongFalsely : Prop := scriptWritesRow.holds Try.pinned (OpenSpec.ofChange scriptWritesWrong)

/-- 'warrenlaw17.ScriptBack': WHATEVER THE INPUT: true; the input reads as it did. -/
def scriptBackSpec : ChangeSpec := { name := "scriptBack", fn := fun _ => fun
  | [d1, d2] => { results := [.lit (.bool true)], args := [d1, d2] }
  | _ => none }
def scriptBackRow : OpenClaim := { program := "ytmokbgihpfnmbaa", sum := "8a03a587ea893c5796531a91ad66e7b1d32b4d8efbce4d0f95ed47049d37c340", func := "warren/warrenlaw17.ScriptBack", spec := "scriptBack", unfollowed := true, recurses := true, apart := false }
def ScriptBackSaid : Prop := scriptBackRow.holds Try.pinned (OpenSpec.ofChange scriptBackSpec)

/-- ITS FALSE NEIGHBOUR: 'it returns false'. Refute it at one input. -/
def scriptBackWrong : ChangeSpec := { name := "scriptBack", fn := fun _ => fun
  | [d1, d2] => { results := [.lit (.bool false)], args := [d1, d2] }
  | _ => none }
def ScriptBackWrongFalsely : Prop := scriptBackRow.holds Try.pinned (OpenSpec.ofChange scriptBackWrong)

/-- 'warrenlaw17.ScriptCuts': WHATEVER THE INPUT: true; the input reads as it did. -/
def scriptCutsSpec : ChangeSpec := { name := "scriptCuts", fn := fun _ => fun
  | [d1, d2] => { results := [.lit (.bool true)], args := [d1, d2] }
  | _ => none }
def scriptCutsRow : OpenClaim := { program := "ytmokbgihpfnmbaa", sum := "8a03a587ea893c5796531a91ad66e7b1d32b4d8efbce4d0f95ed47049d37c340", func := "warren/warrenlaw17.ScriptCuts", spec := "scriptCuts", unfollowed := true, recurses := true, apart := false }
def ScriptCutsSaid : Prop := scriptCutsRow.holds Try.pinned (OpenSpec.ofChange scriptCutsSpec)

/-- ITS FALSE NEIGHBOUR: 'it returns false'. Refute it at one input. -/
def scriptCutsWrong : ChangeSpec := { name := "scriptCuts", fn := fun _ => fun
  | [d1, d2] => { results := [.lit (.bool false)], args := [d1, d2] }
  | _ => none }
def ScriptCutsWrongFalsely : Prop := scriptCutsRow.holds Try.pinned (OpenSpec.ofChange scriptCutsWrong)

/-- 'warrenlaw17.ScriptCounts': WHATEVER THE INPUT: true; the input reads as it did. -/
def scriptCountsSpec : ChangeSpec := { name := "scriptCounts", fn := fun _ => fun
  | [d1, d2] => { results := [.lit (.bool true)], args := [d1, d2] }
  | _ => none }
def scriptCountsRow : OpenClaim := { program := "ytmokbgihpfnmbaa", sum := "8a03a587ea893c5796531a91ad66e7b1d32b4d8efbce4d0f95ed47049d37c340", func := "warren/warrenlaw17.ScriptCounts", spec := "scriptCounts", unfollowed := true, recurses := true, apart := false }
def ScriptCountsSaid : Prop := scriptCountsRow.holds Try.pinned (OpenSpec.ofChange scriptCountsSpec)

/-- ITS FALSE NEIGHBOUR: 'it returns false'. Refute it at one input. -/
def scriptCountsWrong : ChangeSpec := { name := "scriptCounts", fn := fun _ => fun
  | [d1, d2] => { results := [.lit (.bool false)], args := [d1, d2] }
  | _ => none }
def ScriptCountsWrongFalsely : Prop := scriptCountsRow.holds Try.pinned (OpenSpec.ofChange scriptCountsWrong)

/- THE SECOND FORM. 'bulk': how many values and letters a reading holds, each counted each time it is reached (what is shared counts as often as it is met; a slice's spare places count too). A statement '..UptoSaid' is the law's where the arguments, and the package variables that the reading takes, are together of bulk at most 1048576: NARROWER than '..Said'. Prove '..Said' where nothing that the law and all that it calls make is longer than what came in: it says more and counts as full. Else prove '..UptoSaid'. A law counts once. -/
mutual
def uptoBulk {H : Type} : DataW H → Nat
  | .lit (.string bytes) => bytes.length + 1
  | .lit _ => 1
  | .nil => 1
  | .ptr d => uptoBulk d + 1
  | .slice elems spare => uptoBulkAll elems + uptoBulkAll spare + 1
  | .agg parts => uptoBulkAll parts + 1
  | .iface _ d => uptoBulk d + 1
  | .map entries => uptoBulkEntries entries + 1
  | .held _ => 1
def uptoBulkAll {H : Type} : List (DataW H) → Nat
  | [] => 0
  | d :: r => uptoBulk d + uptoBulkAll r
def uptoBulkEntries {H : Type} : List (Lit × DataW H) → Nat
  | [] => 0
  | x :: r => uptoBulkEntry x + uptoBulkEntries r
def uptoBulkEntry {H : Type} : Lit × DataW H → Nat
  | (.string bytes, d) => bytes.length + uptoBulk d + 1
  | (_, d) => uptoBulk d + 1
 end
def uptoSmall : (H : Type) → List (DataW H) → Bool := fun _ ds => decide (uptoBulkAll ds ≤ 1048576)
def OpenSpec.upto (s : _root_.Go.ChangeSpec) : _root_.Go.OpenSpec := { _root_.Go.OpenSpec.ofChange s with cond := some uptoSmall }

/-- 'warrenlaw17.ScriptReads', WHERE WHAT IT READS IS OF BULK AT MOST 1048576: true; the input reads as it did. -/
def scriptReadsUptoRow : OpenClaim := { program := "ytmokbgihpfnmbaa", sum := "8a03a587ea893c5796531a91ad66e7b1d32b4d8efbce4d0f95ed47049d37c340", func := "warren/warrenlaw17.ScriptReads", spec := "scriptReads", unfollowed := true, recurses := true, apart := false, narrowed := true }
def ScriptReadsUptoSaid : Prop := scriptReadsUptoRow.holds Try.pinned (OpenSpec.upto scriptReadsSpec)

/-- 'warrenlaw17.ScriptNumbers', WHERE WHAT IT READS IS OF BULK AT MOST 1048576: true; the input reads as it did. -/
def scriptNumbersUptoRow : OpenClaim := { program := "ytmokbgihpfnmbaa", sum := "8a03a587ea893c5796531a91ad66e7b1d32b4d8efbce4d0f95ed47049d37c340", func := "warren/warrenlaw17.ScriptNumbers", spec := "scriptNumbers", unfollowed := true, recurses := true, apart := false, narrowed := true }
def ScriptNumbersUptoSaid : Prop := scriptNumbersUptoRow.holds Try.pinned (OpenSpec.upto scriptNumbersSpec)

/-- 'warrenlaw17.ScriptWrites', WHERE WHAT IT READS IS OF BULK AT MOST 1048576: true; the input reads as it did. -/
def scriptWritesUptoRow : OpenClaim := { program := "ytmokbgihpfnmbaa", sum := "8a03a587ea893c5796531a91ad66e7b1d32b4d8efbce4d0f95ed47049d37c340", func := "warren/warrenlaw17.ScriptWrites", spec := "scriptWrites", unfollowed := true, recurses := true, apart := false, narrowed := true }
def ScriptWritesUptoSaid : Prop := scriptWritesUptoRow.holds Try.pinned (OpenSpec.upto scriptWritesSpec)

/-- 'warrenlaw17.ScriptBack', WHERE WHAT IT READS IS OF BULK AT MOST 1048576: true; the input reads as it did. -/
def scriptBackUptoRow : OpenClaim := { program := "ytmokbgihpfnmbaa", sum := "8a03a587ea893c5796531a91ad66e7b1d32b4d8efbce4d0f95ed47049d37c340", func := "warren/warrenlaw17.ScriptBack", spec := "scriptBack", unfollowed := true, recurses := true, apart := false, narrowed := true }
def ScriptBackUptoSaid : Prop := scriptBackUptoRow.holds Try.pinned (OpenSpec.upto scriptBackSpec)

/-- 'warrenlaw17.ScriptCuts', WHERE WHAT IT READS IS OF BULK AT MOST 1048576: true; the input reads as it did. -/
def scriptCutsUptoRow : OpenClaim := { program := "ytmokbgihpfnmbaa", sum := "8a03a587ea893c5796531a91ad66e7b1d32b4d8efbce4d0f95ed47049d37c340", func := "warren/warrenlaw17.ScriptCuts", spec := "scriptCuts", unfollowed := true, recurses := true, apart := false, narrowed := true }
def ScriptCutsUptoSaid : Prop := scriptCutsUptoRow.holds Try.pinned (OpenSpec.upto scriptCutsSpec)

/-- 'warrenlaw17.ScriptCounts', WHERE WHAT IT READS IS OF BULK AT MOST 1048576: true; the input reads as it did. -/
def scriptCountsUptoRow : OpenClaim := { program := "ytmokbgihpfnmbaa", sum := "8a03a587ea893c5796531a91ad66e7b1d32b4d8efbce4d0f95ed47049d37c340", func := "warren/warrenlaw17.ScriptCounts", spec := "scriptCounts", unfollowed := true, recurses := true, apart := false, narrowed := true }
def ScriptCountsUptoSaid : Prop := scriptCountsUptoRow.holds Try.pinned (OpenSpec.upto scriptCountsSpec)

end Rows
end Go.Proofs.Ytmokbgihpfnmbaa
