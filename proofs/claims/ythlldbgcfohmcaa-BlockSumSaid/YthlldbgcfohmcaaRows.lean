/-
  No cell of these rows narrows 'for every input' (looked for: loops, veiled, ifaces, maps, wideKeys, modest, calm, conditions, laid).
  DERIVED. THE GIVEN ROWS OF THIS SEAT. 8 by the template 'for every input the law returns true; each argument reads behind the call as it read before'; 0 by the template 'total and deterministic' (their statements: YthlldbgcfohmcaaTotals.lean).
  GIVEN WITH THE SEED: the statements are not yours to turn. If you find one false, say at which input.
  Laid BY PROGRAM, IN A SANDBOX (cutbox-rows.mjs): the forced cells as the released guide's own fill.sh prints them over the translation d61cf57de90be278… (all of the seat's roots in one cut). By AI agents, Wed Nov 11 2026. No macro, syntax, notation, axiom, sorry.
-/
import Derived.Test.YthlldbgcfohmcaaChecked
import GoSem.Claim
import GoSem.ClaimJoined
import GoSem.ClaimMapViews
import Derived.JoinedTies
import Derived.KernelRfl
namespace Go.Proofs.Ythlldbgcfohmcaa
/- THE CELL 'sum', in the pinned program and in every row, IS THE sha256 OF THE DUMP (.gsa) THAT YthlldbgcfohmcaaProg.lean LOADS. Nothing in Lean hashes anything: it is a label: what it is worth is what the hold of that sum in a sandbox is worth. -/
noncomputable def Try.pinned : Pinned := { name := "ythlldbgcfohmcaa", sum := "d61cf57de90be2780c32590a484c756072e8847574b36e7a8dc51e3804eb1503", checked := Try.checked }
namespace Rows
def none {H : Type} : Left H := { results := [], args := [] }

/-- 'warrenlaw9.BlockKept': WHATEVER THE INPUT: true; the input reads as it did. -/
def blockKeptSpec : ChangeSpec := { name := "blockKept", fn := fun _ => fun
  | [d] => { results := [.lit (.bool true)], args := [d] }
  | _ => none }
def blockKeptRow : OpenClaim := { program := "ythlldbgcfohmcaa", sum := "d61cf57de90be2780c32590a484c756072e8847574b36e7a8dc51e3804eb1503", func := "warren/warrenlaw9.BlockKept", spec := "blockKept", apart := false }
def BlockKeptSaid : Prop := blockKeptRow.holds Try.pinned (OpenSpec.ofChange blockKeptSpec)

/-- ITS FALSE NEIGHBOUR: 'it returns false'. Refute it at one input. -/
def blockKeptWrong : ChangeSpec := { name := "blockKept", fn := fun _ => fun
  | [d] => { results := [.lit (.bool false)], args := [d] }
  | _ => none }
def BlockKeptWrongFalsely : Prop := blockKeptRow.holds Try.pinned (OpenSpec.ofChange blockKeptWrong)

/-- 'warrenlaw9.BlockBack': WHATEVER THE INPUT: true; the input reads as it did. -/
def blockBackSpec : ChangeSpec := { name := "blockBack", fn := fun _ => fun
  | [d1, d2, d3, d4] => { results := [.lit (.bool true)], args := [d1, d2, d3, d4] }
  | _ => none }
def blockBackRow : OpenClaim := { program := "ythlldbgcfohmcaa", sum := "d61cf57de90be2780c32590a484c756072e8847574b36e7a8dc51e3804eb1503", func := "warren/warrenlaw9.BlockBack", spec := "blockBack", apart := false }
def BlockBackSaid : Prop := blockBackRow.holds Try.pinned (OpenSpec.ofChange blockBackSpec)

/-- ITS FALSE NEIGHBOUR: 'it returns false'. Refute it at one input. -/
def blockBackWrong : ChangeSpec := { name := "blockBack", fn := fun _ => fun
  | [d1, d2, d3, d4] => { results := [.lit (.bool false)], args := [d1, d2, d3, d4] }
  | _ => none }
def BlockBackWrongFalsely : Prop := blockBackRow.holds Try.pinned (OpenSpec.ofChange blockBackWrong)

/-- 'warrenlaw9.BlockRefused': WHATEVER THE INPUT: true; the input reads as it did. -/
def blockRefusedSpec : ChangeSpec := { name := "blockRefused", fn := fun _ => fun
  | [d1, d2, d3, d4] => { results := [.lit (.bool true)], args := [d1, d2, d3, d4] }
  | _ => none }
def blockRefusedRow : OpenClaim := { program := "ythlldbgcfohmcaa", sum := "d61cf57de90be2780c32590a484c756072e8847574b36e7a8dc51e3804eb1503", func := "warren/warrenlaw9.BlockRefused", spec := "blockRefused", apart := false }
def BlockRefusedSaid : Prop := blockRefusedRow.holds Try.pinned (OpenSpec.ofChange blockRefusedSpec)

/-- ITS FALSE NEIGHBOUR: 'it returns false'. Refute it at one input. -/
def blockRefusedWrong : ChangeSpec := { name := "blockRefused", fn := fun _ => fun
  | [d1, d2, d3, d4] => { results := [.lit (.bool false)], args := [d1, d2, d3, d4] }
  | _ => none }
def BlockRefusedWrongFalsely : Prop := blockRefusedRow.holds Try.pinned (OpenSpec.ofChange blockRefusedWrong)

/-- 'warrenlaw9.BlockDrop': WHATEVER THE INPUT: true; the input reads as it did. -/
def blockDropSpec : ChangeSpec := { name := "blockDrop", fn := fun _ => fun
  | [d1, d2, d3] => { results := [.lit (.bool true)], args := [d1, d2, d3] }
  | _ => none }
def blockDropRow : OpenClaim := { program := "ythlldbgcfohmcaa", sum := "d61cf57de90be2780c32590a484c756072e8847574b36e7a8dc51e3804eb1503", func := "warren/warrenlaw9.BlockDrop", spec := "blockDrop", apart := false }
def BlockDropSaid : Prop := blockDropRow.holds Try.pinned (OpenSpec.ofChange blockDropSpec)

/-- ITS FALSE NEIGHBOUR: 'it returns false'. Refute it at one input. -/
def blockDropWrong : ChangeSpec := { name := "blockDrop", fn := fun _ => fun
  | [d1, d2, d3] => { results := [.lit (.bool false)], args := [d1, d2, d3] }
  | _ => none }
def BlockDropWrongFalsely : Prop := blockDropRow.holds Try.pinned (OpenSpec.ofChange blockDropWrong)

/-- 'warrenlaw9.BlockCuts': WHATEVER THE INPUT: true; the input reads as it did. -/
def blockCutsSpec : ChangeSpec := { name := "blockCuts", fn := fun _ => fun
  | [d1, d2, d3] => { results := [.lit (.bool true)], args := [d1, d2, d3] }
  | _ => none }
def blockCutsRow : OpenClaim := { program := "ythlldbgcfohmcaa", sum := "d61cf57de90be2780c32590a484c756072e8847574b36e7a8dc51e3804eb1503", func := "warren/warrenlaw9.BlockCuts", spec := "blockCuts", apart := false }
def BlockCutsSaid : Prop := blockCutsRow.holds Try.pinned (OpenSpec.ofChange blockCutsSpec)

/-- ITS FALSE NEIGHBOUR: 'it returns false'. Refute it at one input. -/
def blockCutsWrong : ChangeSpec := { name := "blockCuts", fn := fun _ => fun
  | [d1, d2, d3] => { results := [.lit (.bool false)], args := [d1, d2, d3] }
  | _ => none }
def BlockCutsWrongFalsely : Prop := blockCutsRow.holds Try.pinned (OpenSpec.ofChange blockCutsWrong)

/-- 'warrenlaw9.BlockNumbers': WHATEVER THE INPUT: true; the input reads as it did. -/
def blockNumbersSpec : ChangeSpec := { name := "blockNumbers", fn := fun _ => fun
  | [] => { results := [.lit (.bool true)], args := [] }
  | _ => none }
def blockNumbersRow : OpenClaim := { program := "ythlldbgcfohmcaa", sum := "d61cf57de90be2780c32590a484c756072e8847574b36e7a8dc51e3804eb1503", func := "warren/warrenlaw9.BlockNumbers", spec := "blockNumbers", apart := false }
def BlockNumbersSaid : Prop := blockNumbersRow.holds Try.pinned (OpenSpec.ofChange blockNumbersSpec)

/-- ITS FALSE NEIGHBOUR: 'it returns false'. Refute it at one input. -/
def blockNumbersWrong : ChangeSpec := { name := "blockNumbers", fn := fun _ => fun
  | [] => { results := [.lit (.bool false)], args := [] }
  | _ => none }
def BlockNumbersWrongFalsely : Prop := blockNumbersRow.holds Try.pinned (OpenSpec.ofChange blockNumbersWrong)

/-- 'warrenlaw9.BlockPlays': WHATEVER THE INPUT: true; the input reads as it did. -/
def blockPlaysSpec : ChangeSpec := { name := "blockPlays", fn := fun _ => fun
  | [d1, d2] => { results := [.lit (.bool true)], args := [d1, d2] }
  | _ => none }
def blockPlaysRow : OpenClaim := { program := "ythlldbgcfohmcaa", sum := "d61cf57de90be2780c32590a484c756072e8847574b36e7a8dc51e3804eb1503", func := "warren/warrenlaw9.BlockPlays", spec := "blockPlays", apart := false }
def BlockPlaysSaid : Prop := blockPlaysRow.holds Try.pinned (OpenSpec.ofChange blockPlaysSpec)

/-- ITS FALSE NEIGHBOUR: 'it returns false'. Refute it at one input. -/
def blockPlaysWrong : ChangeSpec := { name := "blockPlays", fn := fun _ => fun
  | [d1, d2] => { results := [.lit (.bool false)], args := [d1, d2] }
  | _ => none }
def BlockPlaysWrongFalsely : Prop := blockPlaysRow.holds Try.pinned (OpenSpec.ofChange blockPlaysWrong)

/-- 'warrenlaw9.BlockSum': WHATEVER THE INPUT: true; the input reads as it did. -/
def blockSumSpec : ChangeSpec := { name := "blockSum", fn := fun _ => fun
  | [d1, d2] => { results := [.lit (.bool true)], args := [d1, d2] }
  | _ => none }
def blockSumRow : OpenClaim := { program := "ythlldbgcfohmcaa", sum := "d61cf57de90be2780c32590a484c756072e8847574b36e7a8dc51e3804eb1503", func := "warren/warrenlaw9.BlockSum", spec := "blockSum", apart := false }
def BlockSumSaid : Prop := blockSumRow.holds Try.pinned (OpenSpec.ofChange blockSumSpec)

/-- ITS FALSE NEIGHBOUR: 'it returns false'. Refute it at one input. -/
def blockSumWrong : ChangeSpec := { name := "blockSum", fn := fun _ => fun
  | [d1, d2] => { results := [.lit (.bool false)], args := [d1, d2] }
  | _ => none }
def BlockSumWrongFalsely : Prop := blockSumRow.holds Try.pinned (OpenSpec.ofChange blockSumWrong)

/- THE SECOND FORM. 'bulk': how many values and letters a reading holds, each counted each time it is reached (what is shared counts as often as it is met; a slice's spare places count too). A statement '..UptoSaid' is the law's where the arguments, and the package variables that the reading takes, are together of bulk at most 1048576: NARROWER than '..Said'. Prove '..Said' where nothing that the law and all that it calls make is longer than what came in: it says more and counts as full. Else prove '..UptoSaid'. A law counts once. -/
mutual
def uptoBulk {H : Type} : DataW H → Nat
  | .lit (.string bytes) => bytes.length + 1
  | .lit _ => 1
  | .nil => 1
  | .ptr d => uptoBulk d + 1
  | .slice elems spare => uptoBulkAll elems + uptoBulkAll spare + 1
  | .agg parts => uptoBulkAll parts + 1
  | .iface _ d => uptoBulk d + 1
  | .map entries => uptoBulkEntries entries + 1
  | .held _ => 1
def uptoBulkAll {H : Type} : List (DataW H) → Nat
  | [] => 0
  | d :: r => uptoBulk d + uptoBulkAll r
def uptoBulkEntries {H : Type} : List (Lit × DataW H) → Nat
  | [] => 0
  | x :: r => uptoBulkEntry x + uptoBulkEntries r
def uptoBulkEntry {H : Type} : Lit × DataW H → Nat
  | (.string bytes, d) => bytes.length + uptoBulk d + 1
  | (_, d) => uptoBulk d + 1
 end
def uptoSmall : (H : Type) → List (DataW H) → Bool := fun _ ds => decide (uptoBulkAll ds ≤ 1048576)
def OpenSpec.upto (s : _root_.Go.ChangeSpec) : _root_.Go.OpenSpec := { _root_.Go.OpenSpec.ofChange s with cond := some uptoSmall }

/-- 'warrenlaw9.BlockKept', WHERE WHAT IT READS IS OF BULK AT MOST 1048576: true; the input reads as it did. -/
def blockKeptUptoRow : OpenClaim := { program := "ythlldbgcfohmcaa", sum := "d61cf57de90be2780c32590a484c756072e8847574b36e7a8dc51e3804eb1503", func := "warren/warrenlaw9.BlockKept", spec := "blockKept", apart := false, narrowed := true }
def BlockKeptUptoSaid : Prop := blockKeptUptoRow.holds Try.pinned (OpenSpec.upto blockKeptSpec)

/-- 'warrenlaw9.BlockBack', WHERE WHAT IT READS IS OF BULK AT MOST 1048576: true; the input reads as it did. -/
def blockBackUptoRow : OpenClaim := { program := "ythlldbgcfohmcaa", sum := "d61cf57de90be2780c32590a484c756072e8847574b36e7a8dc51e3804eb1503", func := "warren/warrenlaw9.BlockBack", spec := "blockBack", apart := false, narrowed := true }
def BlockBackUptoSaid : Prop := blockBackUptoRow.holds Try.pinned (OpenSpec.upto blockBackSpec)

/-- 'warrenlaw9.BlockRefused', WHERE WHAT IT READS IS OF BULK AT MOST 1048576: true; the input reads as it did. -/
def blockRefusedUptoRow : OpenClaim := { program := "ythlldbgcfohmcaa", sum := "d61cf57de90be2780c32590a484c756072e8847574b36e7a8dc51e3804eb1503", func := "warren/warrenlaw9.BlockRefused", spec := "blockRefused", apart := false, narrowed := true }
def BlockRefusedUptoSaid : Prop := blockRefusedUptoRow.holds Try.pinned (OpenSpec.upto blockRefusedSpec)

/-- 'warrenlaw9.BlockDrop', WHERE WHAT IT READS IS OF BULK AT MOST 1048576: true; the input reads as it did. -/
def blockDropUptoRow : OpenClaim := { program := "ythlldbgcfohmcaa", sum := "d61cf57de90be2780c32590a484c756072e8847574b36e7a8dc51e3804eb1503", func := "warren/warrenlaw9.BlockDrop", spec := "blockDrop", apart := false, narrowed := true }
def BlockDropUptoSaid : Prop := blockDropUptoRow.holds Try.pinned (OpenSpec.upto blockDropSpec)

/-- 'warrenlaw9.BlockCuts', WHERE WHAT IT READS IS OF BULK AT MOST 1048576: true; the input reads as it did. -/
def blockCutsUptoRow : OpenClaim := { program := "ythlldbgcfohmcaa", sum := "d61cf57de90be2780c32590a484c756072e8847574b36e7a8dc51e3804eb1503", func := "warren/warrenlaw9.BlockCuts", spec := "blockCuts", apart := false, narrowed := true }
def BlockCutsUptoSaid : Prop := blockCutsUptoRow.holds Try.pinned (OpenSpec.upto blockCutsSpec)

/-- 'warrenlaw9.BlockNumbers', WHERE WHAT IT READS IS OF BULK AT MOST 1048576: true; the input reads as it did. -/
def blockNumbersUptoRow : OpenClaim := { program := "ythlldbgcfohmcaa", sum := "d61cf57de90be2780c32590a484c756072e8847574b36e7a8dc51e3804eb1503", func := "warren/warrenlaw9.BlockNumbers", spec := "blockNumbers", apart := false, narrowed := true }
def BlockNumbersUptoSaid : Prop := blockNumbersUptoRow.holds Try.pinned (OpenSpec.upto blockNumbersSpec)

/-- 'warrenlaw9.BlockPlays', WHERE WHAT IT READS IS OF BULK AT MOST 1048576: true; the input reads as it did. -/
def blockPlaysUptoRow : OpenClaim := { program := "ythlldbgcfohmcaa", sum := "d61cf57de90be2780c32590a484c756072e8847574b36e7a8dc51e3804eb1503", func := "warren/warrenlaw9.BlockPlays", spec := "blockPlays", apart := false, narrowed := true }
def BlockPlaysUptoSaid : Prop := blockPlaysUptoRow.holds Try.pinned (OpenSpec.upto blockPlaysSpec)

/-- 'warrenlaw9.BlockSum', WHERE WHAT IT READS IS OF BULK AT MOST 1048576: true; the input reads as it did. -/
def blockSumUptoRow : OpenClaim := { program := "ythlldbgcfohmcaa", sum := "d61cf57de90be2780c32590a484c756072e8847574b36e7a8dc51e3804eb1503", func := "warren/warrenlaw9.BlockSum", spec := "blockSum", apart := false, narrowed := true }
def BlockSumUptoSaid : Prop := blockSumUptoRow.holds Try.pinned (OpenSpec.upto blockSumSpec)

end Rows
end Go.Proofs.Ythlldbgcfohmcaa
