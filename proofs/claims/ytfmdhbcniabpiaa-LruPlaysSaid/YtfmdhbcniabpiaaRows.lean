/-
  No cell of these rows narrows 'for every input' (looked for: loops, veiled, ifaces, maps, wideKeys, modest, calm, conditions, laid).
  DERIVED. THE GIVEN ROWS OF THIS SEAT. 5 by the template 'for every input the law returns true; each argument reads behind the call as it read before'; 0 by the template 'total and deterministic' (their statements: YtfmdhbcniabpiaaTotals.lean).
  GIVEN WITH THE SEED: the statements are not yours to turn. If you find one false, say at which input.
  Laid BY PROGRAM, IN A SANDBOX (cutbox-rows.mjs): the forced cells as the released guide's own fill.sh prints them over the translation 95e02bd4be384ea8… (all of the seat's roots in one cut). By AI agents, Wed Nov 11 2026. No macro, syntax, notation, axiom, sorry.
-/
import Derived.Test.YtfmdhbcniabpiaaChecked
import GoSem.Claim
import GoSem.ClaimJoined
import GoSem.ClaimMapViews
import Derived.JoinedTies
import Derived.KernelRfl
namespace Go.Proofs.Ytfmdhbcniabpiaa
/- THE CELL 'sum', in the pinned program and in every row, IS THE sha256 OF THE DUMP (.gsa) THAT YtfmdhbcniabpiaaProg.lean LOADS. Nothing in Lean hashes anything: it is a label: what it is worth is what the hold of that sum in a sandbox is worth. -/
noncomputable def Try.pinned : Pinned := { name := "ytfmdhbcniabpiaa", sum := "95e02bd4be384ea84a58ccd20f6807843e252be5634ac1016acd02d88c3e6d6e", checked := Try.checked }
namespace Rows
def none {H : Type} : Left H := { results := [], args := [] }

/-- 'warrenlaw6.LruLen': WHATEVER THE INPUT: true; the input reads as it did. -/
def lruLenSpec : ChangeSpec := { name := "lruLen", fn := fun _ => fun
  | [d1, d2] => { results := [.lit (.bool true)], args := [d1, d2] }
  | _ => none }
def lruLenRow : OpenClaim := { program := "ytfmdhbcniabpiaa", sum := "95e02bd4be384ea84a58ccd20f6807843e252be5634ac1016acd02d88c3e6d6e", func := "warren/warrenlaw6.LruLen", spec := "lruLen", unfollowed := true, recurses := true, apart := false }
def LruLenSaid : Prop := lruLenRow.holds Try.pinned (OpenSpec.ofChange lruLenSpec)

/-- ITS FALSE NEIGHBOUR: 'it returns false'. Refute it at one input. -/
def lruLenWrong : ChangeSpec := { name := "lruLen", fn := fun _ => fun
  | [d1, d2] => { results := [.lit (.bool false)], args := [d1, d2] }
  | _ => none }
def LruLenWrongFalsely : Prop := lruLenRow.holds Try.pinned (OpenSpec.ofChange lruLenWrong)

/-- 'warrenlaw6.LruPins': WHATEVER THE INPUT: true; the input reads as it did. -/
def lruPinsSpec : ChangeSpec := { name := "lruPins", fn := fun _ => fun
  | [d1, d2, d3] => { results := [.lit (.bool true)], args := [d1, d2, d3] }
  | _ => none }
def lruPinsRow : OpenClaim := { program := "ytfmdhbcniabpiaa", sum := "95e02bd4be384ea84a58ccd20f6807843e252be5634ac1016acd02d88c3e6d6e", func := "warren/warrenlaw6.LruPins", spec := "lruPins", unfollowed := true, recurses := true, apart := false }
def LruPinsSaid : Prop := lruPinsRow.holds Try.pinned (OpenSpec.ofChange lruPinsSpec)

/-- ITS FALSE NEIGHBOUR: 'it returns false'. Refute it at one input. -/
def lruPinsWrong : ChangeSpec := { name := "lruPins", fn := fun _ => fun
  | [d1, d2, d3] => { results := [.lit (.bool false)], args := [d1, d2, d3] }
  | _ => none }
def LruPinsWrongFalsely : Prop := lruPinsRow.holds Try.pinned (OpenSpec.ofChange lruPinsWrong)

/-- 'warrenlaw6.LruOrder': WHATEVER THE INPUT: true; the input reads as it did. -/
def lruOrderSpec : ChangeSpec := { name := "lruOrder", fn := fun _ => fun
  | [d1, d2, d3] => { results := [.lit (.bool true)], args := [d1, d2, d3] }
  | _ => none }
def lruOrderRow : OpenClaim := { program := "ytfmdhbcniabpiaa", sum := "95e02bd4be384ea84a58ccd20f6807843e252be5634ac1016acd02d88c3e6d6e", func := "warren/warrenlaw6.LruOrder", spec := "lruOrder", unfollowed := true, recurses := true, apart := false }
def LruOrderSaid : Prop := lruOrderRow.holds Try.pinned (OpenSpec.ofChange lruOrderSpec)

/-- ITS FALSE NEIGHBOUR: 'it returns false'. Refute it at one input. -/
def lruOrderWrong : ChangeSpec := { name := "lruOrder", fn := fun _ => fun
  | [d1, d2, d3] => { results := [.lit (.bool false)], args := [d1, d2, d3] }
  | _ => none }
def LruOrderWrongFalsely : Prop := lruOrderRow.holds Try.pinned (OpenSpec.ofChange lruOrderWrong)

/-- 'warrenlaw6.LruNumbers': WHATEVER THE INPUT: true; the input reads as it did. -/
def lruNumbersSpec : ChangeSpec := { name := "lruNumbers", fn := fun _ => fun
  | [] => { results := [.lit (.bool true)], args := [] }
  | _ => none }
def lruNumbersRow : OpenClaim := { program := "ytfmdhbcniabpiaa", sum := "95e02bd4be384ea84a58ccd20f6807843e252be5634ac1016acd02d88c3e6d6e", func := "warren/warrenlaw6.LruNumbers", spec := "lruNumbers", unfollowed := true, recurses := true, apart := false }
def LruNumbersSaid : Prop := lruNumbersRow.holds Try.pinned (OpenSpec.ofChange lruNumbersSpec)

/-- ITS FALSE NEIGHBOUR: 'it returns false'. Refute it at one input. -/
def lruNumbersWrong : ChangeSpec := { name := "lruNumbers", fn := fun _ => fun
  | [] => { results := [.lit (.bool false)], args := [] }
  | _ => none }
def LruNumbersWrongFalsely : Prop := lruNumbersRow.holds Try.pinned (OpenSpec.ofChange lruNumbersWrong)

/-- 'warrenlaw6.LruPlays': WHATEVER THE INPUT: true; the input reads as it did. -/
def lruPlaysSpec : ChangeSpec := { name := "lruPlays", fn := fun _ => fun
  | [d1, d2] => { results := [.lit (.bool true)], args := [d1, d2] }
  | _ => none }
def lruPlaysRow : OpenClaim := { program := "ytfmdhbcniabpiaa", sum := "95e02bd4be384ea84a58ccd20f6807843e252be5634ac1016acd02d88c3e6d6e", func := "warren/warrenlaw6.LruPlays", spec := "lruPlays", unfollowed := true, recurses := true, apart := false }
def LruPlaysSaid : Prop := lruPlaysRow.holds Try.pinned (OpenSpec.ofChange lruPlaysSpec)

/-- ITS FALSE NEIGHBOUR: 'it returns false'. Refute it at one input. -/
def lruPlaysWrong : ChangeSpec := { name := "lruPlays", fn := fun _ => fun
  | [d1, d2] => { results := [.lit (.bool false)], args := [d1, d2] }
  | _ => none }
def LruPlaysWrongFalsely : Prop := lruPlaysRow.holds Try.pinned (OpenSpec.ofChange lruPlaysWrong)

/- THE SECOND FORM. 'bulk': how many values and letters a reading holds, each counted each time it is reached (what is shared counts as often as it is met; a slice's spare places count too). A statement '..UptoSaid' is the law's where the arguments, and the package variables that the reading takes, are together of bulk at most 1048576: NARROWER than '..Said'. Prove '..Said' where nothing that the law and all that it calls make is longer than what came in: it says more and counts as full. Else prove '..UptoSaid'. A law counts once. -/
mutual
def uptoBulk {H : Type} : DataW H → Nat
  | .lit (.string bytes) => bytes.length + 1
  | .lit _ => 1
  | .nil => 1
  | .ptr d => uptoBulk d + 1
  | .slice elems spare => uptoBulkAll elems + uptoBulkAll spare + 1
  | .agg parts => uptoBulkAll parts + 1
  | .iface _ d => uptoBulk d + 1
  | .map entries => uptoBulkEntries entries + 1
  | .held _ => 1
def uptoBulkAll {H : Type} : List (DataW H) → Nat
  | [] => 0
  | d :: r => uptoBulk d + uptoBulkAll r
def uptoBulkEntries {H : Type} : List (Lit × DataW H) → Nat
  | [] => 0
  | x :: r => uptoBulkEntry x + uptoBulkEntries r
def uptoBulkEntry {H : Type} : Lit × DataW H → Nat
  | (.string bytes, d) => bytes.length + uptoBulk d + 1
  | (_, d) => uptoBulk d + 1
 end
def uptoSmall : (H : Type) → List (DataW H) → Bool := fun _ ds => decide (uptoBulkAll ds ≤ 1048576)
def OpenSpec.upto (s : _root_.Go.ChangeSpec) : _root_.Go.OpenSpec := { _root_.Go.OpenSpec.ofChange s with cond := some uptoSmall }

/-- 'warrenlaw6.LruLen', WHERE WHAT IT READS IS OF BULK AT MOST 1048576: true; the input reads as it did. -/
def lruLenUptoRow : OpenClaim := { program := "ytfmdhbcniabpiaa", sum := "95e02bd4be384ea84a58ccd20f6807843e252be5634ac1016acd02d88c3e6d6e", func := "warren/warrenlaw6.LruLen", spec := "lruLen", unfollowed := true, recurses := true, apart := false, narrowed := true }
def LruLenUptoSaid : Prop := lruLenUptoRow.holds Try.pinned (OpenSpec.upto lruLenSpec)

/-- 'warrenlaw6.LruPins', WHERE WHAT IT READS IS OF BULK AT MOST 1048576: true; the input reads as it did. -/
def lruPinsUptoRow : OpenClaim := { program := "ytfmdhbcniabpiaa", sum := "95e02bd4be384ea84a58ccd20f6807843e252be5634ac1016acd02d88c3e6d6e", func := "warren/warrenlaw6.LruPins", spec := "lruPins", unfollowed := true, recurses := true, apart := false, narrowed := true }
def LruPinsUptoSaid : Prop := lruPinsUptoRow.holds Try.pinned (OpenSpec.upto lruPinsSpec)

/-- 'warrenlaw6.LruOrder', WHERE WHAT IT READS IS OF BULK AT MOST 1048576: true; the input reads as it did. -/
def lruOrderUptoRow : OpenClaim := { program := "ytfmdhbcniabpiaa", sum := "95e02bd4be384ea84a58ccd20f6807843e252be5634ac1016acd02d88c3e6d6e", func := "warren/warrenlaw6.LruOrder", spec := "lruOrder", unfollowed := true, recurses := true, apart := false, narrowed := true }
def LruOrderUptoSaid : Prop := lruOrderUptoRow.holds Try.pinned (OpenSpec.upto lruOrderSpec)

/-- 'warrenlaw6.LruNumbers', WHERE WHAT IT READS IS OF BULK AT MOST 1048576: true; the input reads as it did. -/
def lruNumbersUptoRow : OpenClaim := { program := "ytfmdhbcniabpiaa", sum := "95e02bd4be384ea84a58ccd20f6807843e252be5634ac1016acd02d88c3e6d6e", func := "warren/warrenlaw6.LruNumbers", spec := "lruNumbers", unfollowed := true, recurses := true, apart := false, narrowed := true }
def LruNumbersUptoSaid : Prop := lruNumbersUptoRow.holds Try.pinned (OpenSpec.upto lruNumbersSpec)

/-- 'warrenlaw6.LruPlays', WHERE WHAT IT READS IS OF BULK AT MOST 1048576: true; the input reads as it did. -/
def lruPlaysUptoRow : OpenClaim := { program := "ytfmdhbcniabpiaa", sum := "95e02bd4be384ea84a58ccd20f6807843e252be5634ac1016acd02d88c3e6d6e", func := "warren/warrenlaw6.LruPlays", spec := "lruPlays", unfollowed := true, recurses := true, apart := false, narrowed := true }
def LruPlaysUptoSaid : Prop := lruPlaysUptoRow.holds Try.pinned (OpenSpec.upto lruPlaysSpec)

end Rows
end Go.Proofs.Ytfmdhbcniabpiaa
