/-
  No cell of these rows narrows 'for every input' (looked for: loops, veiled, ifaces, maps, wideKeys, modest, calm, conditions, laid).
  DERIVED. THE GIVEN ROWS OF THIS SEAT. 6 by the template 'for every input the law returns true; each argument reads behind the call as it read before'; 0 by the template 'total and deterministic' (their statements: YtnjfcedkfobbcaaTotals.lean).
  GIVEN WITH THE SEED: the statements are not yours to turn. If you find one false, say at which input.
  Laid BY PROGRAM, IN A SANDBOX (cutbox-rows.mjs): the forced cells as the released guide's own fill.sh prints them over the translation 0ae650fd7e80dfdc… (all of the seat's roots in one cut). By AI agents, Wed Nov 11 2026. No macro, syntax, notation, axiom, sorry.
-/
import Derived.Test.YtnjfcedkfobbcaaChecked
import GoSem.Claim
import GoSem.ClaimJoined
import GoSem.ClaimMapViews
import Derived.JoinedTies
import Derived.KernelRfl
namespace Go.Proofs.Ytnjfcedkfobbcaa
/- THE CELL 'sum', in the pinned program and in every row, IS THE sha256 OF THE DUMP (.gsa) THAT YtnjfcedkfobbcaaProg.lean LOADS. Nothing in Lean hashes anything: it is a label: what it is worth is what the hold of that sum in a sandbox is worth. -/
noncomputable def Try.pinned : Pinned := { name := "ytnjfcedkfobbcaa", sum := "0ae650fd7e80dfdc7476ceef27ff35f9be3703c6860be642804b50462d84b220", checked := Try.checked }
namespace Rows
def none {H : Type} : Left H := { results := [], args := [] }

/-- 'warrenlaw10.TreeMoves': WHATEVER THE INPUT: true; the input reads as it did. -/
def treeMovesSpec : ChangeSpec := { name := "treeMoves", fn := fun _ => fun
  | [d1, d2, d3, d4, d5] => { results := [.lit (.bool true)], args := [d1, d2, d3, d4, d5] }
  | _ => none }
def treeMovesRow : OpenClaim := { program := "ytnjfcedkfobbcaa", sum := "0ae650fd7e80dfdc7476ceef27ff35f9be3703c6860be642804b50462d84b220", func := "warren/warrenlaw10.TreeMoves", spec := "treeMoves", inPlace := ["internal/bytealg.IndexByteString"], apart := false }
def TreeMovesSaid : Prop := treeMovesRow.holds Try.pinned (OpenSpec.ofChange treeMovesSpec)

/-- ITS FALSE NEIGHBOUR: 'it returns false'. Refute it at one input. -/
def treeMovesWrong : ChangeSpec := { name := "treeMoves", fn := fun _ => fun
  | [d1, d2, d3, d4, d5] => { results := [.lit (.bool false)], args := [d1, d2, d3, d4, d5] }
  | _ => none }
def TreeMovesWrongFalsely : Prop := treeMovesRow.holds Try.pinned (OpenSpec.ofChange treeMovesWrong)

/-- 'warrenlaw10.TreeNumbersRise': WHATEVER THE INPUT: true; the input reads as it did. -/
def treeNumbersRiseSpec : ChangeSpec := { name := "treeNumbersRise", fn := fun _ => fun
  | [d] => { results := [.lit (.bool true)], args := [d] }
  | _ => none }
def treeNumbersRiseRow : OpenClaim := { program := "ytnjfcedkfobbcaa", sum := "0ae650fd7e80dfdc7476ceef27ff35f9be3703c6860be642804b50462d84b220", func := "warren/warrenlaw10.TreeNumbersRise", spec := "treeNumbersRise", inPlace := ["internal/bytealg.IndexByteString"], unfollowed := true, recurses := true, apart := false }
def TreeNumbersRiseSaid : Prop := treeNumbersRiseRow.holds Try.pinned (OpenSpec.ofChange treeNumbersRiseSpec)

/-- ITS FALSE NEIGHBOUR: 'it returns false'. Refute it at one input. -/
def treeNumbersRiseWrong : ChangeSpec := { name := "treeNumbersRise", fn := fun _ => fun
  | [d] => { results := [.lit (.bool false)], args := [d] }
  | _ => none }
def TreeNumbersRiseWrongFalsely : Prop := treeNumbersRiseRow.holds Try.pinned (OpenSpec.ofChange treeNumbersRiseWrong)

/-- 'warrenlaw10.TreeHolds': WHATEVER THE INPUT: true; the input reads as it did. -/
def treeHoldsSpec : ChangeSpec := { name := "treeHolds", fn := fun _ => fun
  | [d1, d2, d3] => { results := [.lit (.bool true)], args := [d1, d2, d3] }
  | _ => none }
def treeHoldsRow : OpenClaim := { program := "ytnjfcedkfobbcaa", sum := "0ae650fd7e80dfdc7476ceef27ff35f9be3703c6860be642804b50462d84b220", func := "warren/warrenlaw10.TreeHolds", spec := "treeHolds", inPlace := ["internal/bytealg.IndexByteString"], unfollowed := true, recurses := true, apart := false }
def TreeHoldsSaid : Prop := treeHoldsRow.holds Try.pinned (OpenSpec.ofChange treeHoldsSpec)

/-- ITS FALSE NEIGHBOUR: 'it returns false'. Refute it at one input. -/
def treeHoldsWrong : ChangeSpec := { name := "treeHolds", fn := fun _ => fun
  | [d1, d2, d3] => { results := [.lit (.bool false)], args := [d1, d2, d3] }
  | _ => none }
def TreeHoldsWrongFalsely : Prop := treeHoldsRow.holds Try.pinned (OpenSpec.ofChange treeHoldsWrong)

/-- 'warrenlaw10.TreeCounts': WHATEVER THE INPUT: true; the input reads as it did. -/
def treeCountsSpec : ChangeSpec := { name := "treeCounts", fn := fun _ => fun
  | [d] => { results := [.lit (.bool true)], args := [d] }
  | _ => none }
def treeCountsRow : OpenClaim := { program := "ytnjfcedkfobbcaa", sum := "0ae650fd7e80dfdc7476ceef27ff35f9be3703c6860be642804b50462d84b220", func := "warren/warrenlaw10.TreeCounts", spec := "treeCounts", inPlace := ["internal/bytealg.IndexByteString"], unfollowed := true, recurses := true, apart := false }
def TreeCountsSaid : Prop := treeCountsRow.holds Try.pinned (OpenSpec.ofChange treeCountsSpec)

/-- ITS FALSE NEIGHBOUR: 'it returns false'. Refute it at one input. -/
def treeCountsWrong : ChangeSpec := { name := "treeCounts", fn := fun _ => fun
  | [d] => { results := [.lit (.bool false)], args := [d] }
  | _ => none }
def TreeCountsWrongFalsely : Prop := treeCountsRow.holds Try.pinned (OpenSpec.ofChange treeCountsWrong)

/-- 'warrenlaw10.TreeLive': WHATEVER THE INPUT: true; the input reads as it did. -/
def treeLiveSpec : ChangeSpec := { name := "treeLive", fn := fun _ => fun
  | [d] => { results := [.lit (.bool true)], args := [d] }
  | _ => none }
def treeLiveRow : OpenClaim := { program := "ytnjfcedkfobbcaa", sum := "0ae650fd7e80dfdc7476ceef27ff35f9be3703c6860be642804b50462d84b220", func := "warren/warrenlaw10.TreeLive", spec := "treeLive", inPlace := ["internal/bytealg.IndexByteString"], unfollowed := true, recurses := true, apart := false }
def TreeLiveSaid : Prop := treeLiveRow.holds Try.pinned (OpenSpec.ofChange treeLiveSpec)

/-- ITS FALSE NEIGHBOUR: 'it returns false'. Refute it at one input. -/
def treeLiveWrong : ChangeSpec := { name := "treeLive", fn := fun _ => fun
  | [d] => { results := [.lit (.bool false)], args := [d] }
  | _ => none }
def TreeLiveWrongFalsely : Prop := treeLiveRow.holds Try.pinned (OpenSpec.ofChange treeLiveWrong)

/-- 'warrenlaw10.TreeNumbers': WHATEVER THE INPUT: true; the input reads as it did. -/
def treeNumbersSpec : ChangeSpec := { name := "treeNumbers", fn := fun _ => fun
  | [] => { results := [.lit (.bool true)], args := [] }
  | _ => none }
def treeNumbersRow : OpenClaim := { program := "ytnjfcedkfobbcaa", sum := "0ae650fd7e80dfdc7476ceef27ff35f9be3703c6860be642804b50462d84b220", func := "warren/warrenlaw10.TreeNumbers", spec := "treeNumbers", inPlace := ["internal/bytealg.IndexByteString"], unfollowed := true, recurses := true, apart := false }
def TreeNumbersSaid : Prop := treeNumbersRow.holds Try.pinned (OpenSpec.ofChange treeNumbersSpec)

/-- ITS FALSE NEIGHBOUR: 'it returns false'. Refute it at one input. -/
def treeNumbersWrong : ChangeSpec := { name := "treeNumbers", fn := fun _ => fun
  | [] => { results := [.lit (.bool false)], args := [] }
  | _ => none }
def TreeNumbersWrongFalsely : Prop := treeNumbersRow.holds Try.pinned (OpenSpec.ofChange treeNumbersWrong)

/- THE SECOND FORM. 'bulk': how many values and letters a reading holds, each counted each time it is reached (what is shared counts as often as it is met; a slice's spare places count too). A statement '..UptoSaid' is the law's where the arguments, and the package variables that the reading takes, are together of bulk at most 1048576: NARROWER than '..Said'. Prove '..Said' where nothing that the law and all that it calls make is longer than what came in: it says more and counts as full. Else prove '..UptoSaid'. A law counts once. -/
mutual
def uptoBulk {H : Type} : DataW H → Nat
  | .lit (.string bytes) => bytes.length + 1
  | .lit _ => 1
  | .nil => 1
  | .ptr d => uptoBulk d + 1
  | .slice elems spare => uptoBulkAll elems + uptoBulkAll spare + 1
  | .agg parts => uptoBulkAll parts + 1
  | .iface _ d => uptoBulk d + 1
  | .map entries => uptoBulkEntries entries + 1
  | .held _ => 1
def uptoBulkAll {H : Type} : List (DataW H) → Nat
  | [] => 0
  | d :: r => uptoBulk d + uptoBulkAll r
def uptoBulkEntries {H : Type} : List (Lit × DataW H) → Nat
  | [] => 0
  | x :: r => uptoBulkEntry x + uptoBulkEntries r
def uptoBulkEntry {H : Type} : Lit × DataW H → Nat
  | (.string bytes, d) => bytes.length + uptoBulk d + 1
  | (_, d) => uptoBulk d + 1
 end
def uptoSmall : (H : Type) → List (DataW H) → Bool := fun _ ds => decide (uptoBulkAll ds ≤ 1048576)
def OpenSpec.upto (s : _root_.Go.ChangeSpec) : _root_.Go.OpenSpec := { _root_.Go.OpenSpec.ofChange s with cond := some uptoSmall }

/-- 'warrenlaw10.TreeMoves', WHERE WHAT IT READS IS OF BULK AT MOST 1048576: true; the input reads as it did. -/
def treeMovesUptoRow : OpenClaim := { program := "ytnjfcedkfobbcaa", sum := "0ae650fd7e80dfdc7476ceef27ff35f9be3703c6860be642804b50462d84b220", func := "warren/warrenlaw10.TreeMoves", spec := "treeMoves", inPlace := ["internal/bytealg.IndexByteString"], apart := false, narrowed := true }
def TreeMovesUptoSaid : Prop := treeMovesUptoRow.holds Try.pinned (OpenSpec.upto treeMovesSpec)

/-- 'warrenlaw10.TreeNumbersRise', WHERE WHAT IT READS IS OF BULK AT MOST 1048576: true; the input reads as it did. -/
def treeNumbersRiseUptoRow : OpenClaim := { program := "ytnjfcedkfobbcaa", sum := "0ae650fd7e80dfdc7476ceef27ff35f9be3703c6860be642804b50462d84b220", func := "warren/warrenlaw10.TreeNumbersRise", spec := "treeNumbersRise", inPlace := ["internal/bytealg.IndexByteString"], unfollowed := true, recurses := true, apart := false, narrowed := true }
def TreeNumbersRiseUptoSaid : Prop := treeNumbersRiseUptoRow.holds Try.pinned (OpenSpec.upto treeNumbersRiseSpec)

/-- 'warrenlaw10.TreeHolds', WHERE WHAT IT READS IS OF BULK AT MOST 1048576: true; the input reads as it did. -/
def treeHoldsUptoRow : OpenClaim := { program := "ytnjfcedkfobbcaa", sum := "0ae650fd7e80dfdc7476ceef27ff35f9be3703c6860be642804b50462d84b220", func := "warren/warrenlaw10.TreeHolds", spec := "treeHolds", inPlace := ["internal/bytealg.IndexByteString"], unfollowed := true, recurses := true, apart := false, narrowed := true }
def TreeHoldsUptoSaid : Prop := treeHoldsUptoRow.holds Try.pinned (OpenSpec.upto treeHoldsSpec)

/-- 'warrenlaw10.TreeCounts', WHERE WHAT IT READS IS OF BULK AT MOST 1048576: true; the input reads as it did. -/
def treeCountsUptoRow : OpenClaim := { program := "ytnjfcedkfobbcaa", sum := "0ae650fd7e80dfdc7476ceef27ff35f9be3703c6860be642804b50462d84b220", func := "warren/warrenlaw10.TreeCounts", spec := "treeCounts", inPlace := ["internal/bytealg.IndexByteString"], unfollowed := true, recurses := true, apart := false, narrowed := true }
def TreeCountsUptoSaid : Prop := treeCountsUptoRow.holds Try.pinned (OpenSpec.upto treeCountsSpec)

/-- 'warrenlaw10.TreeLive', WHERE WHAT IT READS IS OF BULK AT MOST 1048576: true; the input reads as it did. -/
def treeLiveUptoRow : OpenClaim := { program := "ytnjfcedkfobbcaa", sum := "0ae650fd7e80dfdc7476ceef27ff35f9be3703c6860be642804b50462d84b220", func := "warren/warrenlaw10.TreeLive", spec := "treeLive", inPlace := ["internal/bytealg.IndexByteString"], unfollowed := true, recurses := true, apart := false, narrowed := true }
def TreeLiveUptoSaid : Prop := treeLiveUptoRow.holds Try.pinned (OpenSpec.upto treeLiveSpec)

/-- 'warrenlaw10.TreeNumbers', WHERE WHAT IT READS IS OF BULK AT MOST 1048576: true; the input reads as it did. -/
def treeNumbersUptoRow : OpenClaim := { program := "ytnjfcedkfobbcaa", sum := "0ae650fd7e80dfdc7476ceef27ff35f9be3703c6860be642804b50462d84b220", func := "warren/warrenlaw10.TreeNumbers", spec := "treeNumbers", inPlace := ["internal/bytealg.IndexByteString"], unfollowed := true, recurses := true, apart := false, narrowed := true }
def TreeNumbersUptoSaid : Prop := treeNumbersUptoRow.holds Try.pinned (OpenSpec.upto treeNumbersSpec)

end Rows
end Go.Proofs.Ytnjfcedkfobbcaa
