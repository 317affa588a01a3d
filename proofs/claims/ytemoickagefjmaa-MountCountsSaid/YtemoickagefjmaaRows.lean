/-
  No cell of these rows narrows 'for every input' (looked for: loops, veiled, ifaces, maps, wideKeys, modest, calm, conditions, laid).
  DERIVED. THE GIVEN ROWS OF THIS SEAT. 6 by the template 'for every input the law returns true; each argument reads behind the call as it read before'; 0 by the template 'total and deterministic' (their statements: YtemoickagefjmaaTotals.lean).
  GIVEN WITH THE SEED: the statements are not yours to turn. If you find one false, say at which input.
  Laid BY PROGRAM, IN A SANDBOX (cutbox-rows.mjs): the forced cells as the released guide's own fill.sh prints them over the translation 00ad1108984e2e0f… (all of the seat's roots in one cut). By AI agents, Wed Nov 11 2026. No macro, syntax, notation, axiom, sorry.
-/
import Derived.Test.YtemoickagefjmaaChecked
import GoSem.Claim
import GoSem.ClaimJoined
import GoSem.ClaimMapViews
import Derived.JoinedTies
import Derived.KernelRfl
namespace Go.Proofs.Ytemoickagefjmaa
/- THE CELL 'sum', in the pinned program and in every row, IS THE sha256 OF THE DUMP (.gsa) THAT YtemoickagefjmaaProg.lean LOADS. Nothing in Lean hashes anything: it is a label: what it is worth is what the hold of that sum in a sandbox is worth. -/
noncomputable def Try.pinned : Pinned := { name := "ytemoickagefjmaa", sum := "00ad1108984e2e0f25b79d8a74153759404b78048a6f42ed2350093477736327", checked := Try.checked }
namespace Rows
def none {H : Type} : Left H := { results := [], args := [] }

/-- 'warrenlaw9.BlockPlays': WHATEVER THE INPUT: true; the input reads as it did. -/
def blockPlaysSpec : ChangeSpec := { name := "blockPlays", fn := fun _ => fun
  | [d1, d2] => { results := [.lit (.bool true)], args := [d1, d2] }
  | _ => none }
def blockPlaysRow : OpenClaim := { program := "ytemoickagefjmaa", sum := "00ad1108984e2e0f25b79d8a74153759404b78048a6f42ed2350093477736327", func := "warren/warrenlaw9.BlockPlays", spec := "blockPlays", apart := false }
def BlockPlaysSaid : Prop := blockPlaysRow.holds Try.pinned (OpenSpec.ofChange blockPlaysSpec)

/-- ITS FALSE NEIGHBOUR: 'it returns false'. Refute it at one input. -/
def blockPlaysWrong : ChangeSpec := { name := "blockPlays", fn := fun _ => fun
  | [d1, d2] => { results := [.lit (.bool false)], args := [d1, d2] }
  | _ => none }
def BlockPlaysWrongFalsely : Prop := blockPlaysRow.holds Try.pinned (OpenSpec.ofChange blockPlaysWrong)

/-- 'warrenlaw11.MountUps': WHATEVER THE INPUT: true; the input reads as it did. -/
def mountUpsSpec : ChangeSpec := { name := "mountUps", fn := fun _ => fun
  | [d1, d2] => { results := [.lit (.bool true)], args := [d1, d2] }
  | _ => none }
def mountUpsRow : OpenClaim := { program := "ytemoickagefjmaa", sum := "00ad1108984e2e0f25b79d8a74153759404b78048a6f42ed2350093477736327", func := "warren/warrenlaw11.MountUps", spec := "mountUps", unfollowed := true, recurses := true, apart := false }
def MountUpsSaid : Prop := mountUpsRow.holds Try.pinned (OpenSpec.ofChange mountUpsSpec)

/-- ITS FALSE NEIGHBOUR: 'it returns false'. Refute it at one input. -/
def mountUpsWrong : ChangeSpec := { name := "mountUps", fn := fun _ => fun
  | [d1, d2] => { results := [.lit (.bool false)], args := [d1, d2] }
  | _ => none }
def MountUpsWrongFalsely : Prop := mountUpsRow.holds Try.pinned (OpenSpec.ofChange mountUpsWrong)

/-- 'warrenlaw11.MountDown': WHATEVER THE INPUT: true; the input reads as it did. -/
def mountDownSpec : ChangeSpec := { name := "mountDown", fn := fun _ => fun
  | [d1, d2] => { results := [.lit (.bool true)], args := [d1, d2] }
  | _ => none }
def mountDownRow : OpenClaim := { program := "ytemoickagefjmaa", sum := "00ad1108984e2e0f25b79d8a74153759404b78048a6f42ed2350093477736327", func := "warren/warrenlaw11.MountDown", spec := "mountDown", unfollowed := true, recurses := true, apart := false }
def MountDownSaid : Prop := mountDownRow.holds Try.pinned (OpenSpec.ofChange mountDownSpec)

/-- ITS FALSE NEIGHBOUR: 'it returns false'. Refute it at one input. -/
def mountDownWrong : ChangeSpec := { name := "mountDown", fn := fun _ => fun
  | [d1, d2] => { results := [.lit (.bool false)], args := [d1, d2] }
  | _ => none }
def MountDownWrongFalsely : Prop := mountDownRow.holds Try.pinned (OpenSpec.ofChange mountDownWrong)

/-- 'warrenlaw11.MountCounts': WHATEVER THE INPUT: true; the input reads as it did. -/
def mountCountsSpec : ChangeSpec := { name := "mountCounts", fn := fun _ => fun
  | [d] => { results := [.lit (.bool true)], args := [d] }
  | _ => none }
def mountCountsRow : OpenClaim := { program := "ytemoickagefjmaa", sum := "00ad1108984e2e0f25b79d8a74153759404b78048a6f42ed2350093477736327", func := "warren/warrenlaw11.MountCounts", spec := "mountCounts", unfollowed := true, recurses := true, apart := false }
def MountCountsSaid : Prop := mountCountsRow.holds Try.pinned (OpenSpec.ofChange mountCountsSpec)

/-- ITS FALSE NEIGHBOUR: 'it returns false'. Refute it at one input. -/
def mountCountsWrong : ChangeSpec := { name := "mountCounts", fn := fun _ => fun
  | [d] => { results := [.lit (.bool false)], args := [d] }
  | _ => none }
def MountCountsWrongFalsely : Prop := mountCountsRow.holds Try.pinned (OpenSpec.ofChange mountCountsWrong)

/-- 'warrenlaw11.MountNumbers': WHATEVER THE INPUT: true; the input reads as it did. -/
def mountNumbersSpec : ChangeSpec := { name := "mountNumbers", fn := fun _ => fun
  | [] => { results := [.lit (.bool true)], args := [] }
  | _ => none }
def mountNumbersRow : OpenClaim := { program := "ytemoickagefjmaa", sum := "00ad1108984e2e0f25b79d8a74153759404b78048a6f42ed2350093477736327", func := "warren/warrenlaw11.MountNumbers", spec := "mountNumbers", unfollowed := true, recurses := true, apart := false }
def MountNumbersSaid : Prop := mountNumbersRow.holds Try.pinned (OpenSpec.ofChange mountNumbersSpec)

/-- ITS FALSE NEIGHBOUR: 'it returns false'. Refute it at one input. -/
def mountNumbersWrong : ChangeSpec := { name := "mountNumbers", fn := fun _ => fun
  | [] => { results := [.lit (.bool false)], args := [] }
  | _ => none }
def MountNumbersWrongFalsely : Prop := mountNumbersRow.holds Try.pinned (OpenSpec.ofChange mountNumbersWrong)

/-- 'warrenlaw11.MountPlays': WHATEVER THE INPUT: true; the input reads as it did. -/
def mountPlaysSpec : ChangeSpec := { name := "mountPlays", fn := fun _ => fun
  | [d1, d2] => { results := [.lit (.bool true)], args := [d1, d2] }
  | _ => none }
def mountPlaysRow : OpenClaim := { program := "ytemoickagefjmaa", sum := "00ad1108984e2e0f25b79d8a74153759404b78048a6f42ed2350093477736327", func := "warren/warrenlaw11.MountPlays", spec := "mountPlays", unfollowed := true, recurses := true, apart := false }
def MountPlaysSaid : Prop := mountPlaysRow.holds Try.pinned (OpenSpec.ofChange mountPlaysSpec)

/-- ITS FALSE NEIGHBOUR: 'it returns false'. Refute it at one input. -/
def mountPlaysWrong : ChangeSpec := { name := "mountPlays", fn := fun _ => fun
  | [d1, d2] => { results := [.lit (.bool false)], args := [d1, d2] }
  | _ => none }
def MountPlaysWrongFalsely : Prop := mountPlaysRow.holds Try.pinned (OpenSpec.ofChange mountPlaysWrong)

/- THE SECOND FORM. 'bulk': how many values and letters a reading holds, each counted each time it is reached (what is shared counts as often as it is met; a slice's spare places count too). A statement '..UptoSaid' is the law's where the arguments, and the package variables that the reading takes, are together of bulk at most 1048576: NARROWER than '..Said'. Prove '..Said' where nothing that the law and all that it calls make is longer than what came in: it says more and counts as full. Else prove '..UptoSaid'. A law counts once. -/
mutual
def uptoBulk {H : Type} : DataW H → Nat
  | .lit (.string bytes) => bytes.length + 1
  | .lit _ => 1
  | .nil => 1
  | .ptr d => uptoBulk d + 1
  | .slice elems spare => uptoBulkAll elems + uptoBulkAll spare + 1
  | .agg parts => uptoBulkAll parts + 1
  | .iface _ d => uptoBulk d + 1
  | .map entries => uptoBulkEntries entries + 1
  | .held _ => 1
def uptoBulkAll {H : Type} : List (DataW H) → Nat
  | [] => 0
  | d :: r => uptoBulk d + uptoBulkAll r
def uptoBulkEntries {H : Type} : List (Lit × DataW H) → Nat
  | [] => 0
  | x :: r => uptoBulkEntry x + uptoBulkEntries r
def uptoBulkEntry {H : Type} : Lit × DataW H → Nat
  | (.string bytes, d) => bytes.length + uptoBulk d + 1
  | (_, d) => uptoBulk d + 1
 end
def uptoSmall : (H : Type) → List (DataW H) → Bool := fun _ ds => decide (uptoBulkAll ds ≤ 1048576)
def OpenSpec.upto (s : _root_.Go.ChangeSpec) : _root_.Go.OpenSpec := { _root_.Go.OpenSpec.ofChange s with cond := some uptoSmall }

/-- 'warrenlaw9.BlockPlays', WHERE WHAT IT READS IS OF BULK AT MOST 1048576: true; the input reads as it did. -/
def blockPlaysUptoRow : OpenClaim := { program := "ytemoickagefjmaa", sum := "00ad1108984e2e0f25b79d8a74153759404b78048a6f42ed2350093477736327", func := "warren/warrenlaw9.BlockPlays", spec := "blockPlays", apart := false, narrowed := true }
def BlockPlaysUptoSaid : Prop := blockPlaysUptoRow.holds Try.pinned (OpenSpec.upto blockPlaysSpec)

/-- 'warrenlaw11.MountUps', WHERE WHAT IT READS IS OF BULK AT MOST 1048576: true; the input reads as it did. -/
def mountUpsUptoRow : OpenClaim := { program := "ytemoickagefjmaa", sum := "00ad1108984e2e0f25b79d8a74153759404b78048a6f42ed2350093477736327", func := "warren/warrenlaw11.MountUps", spec := "mountUps", unfollowed := true, recurses := true, apart := false, narrowed := true }
def MountUpsUptoSaid : Prop := mountUpsUptoRow.holds Try.pinned (OpenSpec.upto mountUpsSpec)

/-- 'warrenlaw11.MountDown', WHERE WHAT IT READS IS OF BULK AT MOST 1048576: true; the input reads as it did. -/
def mountDownUptoRow : OpenClaim := { program := "ytemoickagefjmaa", sum := "00ad1108984e2e0f25b79d8a74153759404b78048a6f42ed2350093477736327", func := "warren/warrenlaw11.MountDown", spec := "mountDown", unfollowed := true, recurses := true, apart := false, narrowed := true }
def MountDownUptoSaid : Prop := mountDownUptoRow.holds Try.pinned (OpenSpec.upto mountDownSpec)

/-- 'warrenlaw11.MountCounts', WHERE WHAT IT READS IS OF BULK AT MOST 1048576: true; the input reads as it did. -/
def mountCountsUptoRow : OpenClaim := { program := "ytemoickagefjmaa", sum := "00ad1108984e2e0f25b79d8a74153759404b78048a6f42ed2350093477736327", func := "warren/warrenlaw11.MountCounts", spec := "mountCounts", unfollowed := true, recurses := true, apart := false, narrowed := true }
def MountCountsUptoSaid : Prop := mountCountsUptoRow.holds Try.pinned (OpenSpec.upto mountCountsSpec)

/-- 'warrenlaw11.MountNumbers', WHERE WHAT IT READS IS OF BULK AT MOST 1048576: true; the input reads as it did. -/
def mountNumbersUptoRow : OpenClaim := { program := "ytemoickagefjmaa", sum := "00ad1108984e2e0f25b79d8a74153759404b78048a6f42ed2350093477736327", func := "warren/warrenlaw11.MountNumbers", spec := "mountNumbers", unfollowed := true, recurses := true, apart := false, narrowed := true }
def MountNumbersUptoSaid : Prop := mountNumbersUptoRow.holds Try.pinned (OpenSpec.upto mountNumbersSpec)

/-- 'warrenlaw11.MountPlays', WHERE WHAT IT READS IS OF BULK AT MOST 1048576: true; the input reads as it did. -/
def mountPlaysUptoRow : OpenClaim := { program := "ytemoickagefjmaa", sum := "00ad1108984e2e0f25b79d8a74153759404b78048a6f42ed2350093477736327", func := "warren/warrenlaw11.MountPlays", spec := "mountPlays", unfollowed := true, recurses := true, apart := false, narrowed := true }
def MountPlaysUptoSaid : Prop := mountPlaysUptoRow.holds Try.pinned (OpenSpec.upto mountPlaysSpec)

end Rows
end Go.Proofs.Ytemoickagefjmaa
