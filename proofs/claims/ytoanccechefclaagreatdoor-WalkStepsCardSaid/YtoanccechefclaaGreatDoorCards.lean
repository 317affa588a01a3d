/-
  DERIVED. GIVEN WITH THE SEED: THE CARDS: each row of YtoanccechefclaaGreatDoorRows.lean that lists a variable, with what it lists TIED to the program's text (the seventh form; the later family's looks); each row that meets fmt, with fmt's text TOLD by the authors' own Lean function (tested against real Go, not proved from fmt's source: count such statements apart). THE CARD IS WHAT COUNTS. Prove the row's statement (the work); the ties are given (YtoanccechefclaaGreatDoorTie.lean); close each card by the builder's one call (the guide's Derived/Test/ToyasCard.lean, 'card_holds'). Laid BY PROGRAM, IN A SANDBOX (cutbox-door.mjs). By AI agents, Wed Nov 11 2026. No macro, syntax, notation, axiom, sorry.
-/
import Derived.Test.YtoanccechefclaaGreatDoorRows
import GoSem.ClaimSeven
namespace Go.Proofs.YtoanccechefclaaGreatDoor
namespace Rows

/-- THE TIED CARD OF 'warrenlaw12.WalkParts'. -/
def walkPartsCard : Claim7 := { stood := { row := walkPartsRow, standIns := [], harness := (true, "dda02edbce1c1e36301eb499a0d1dfc603854f2dac22a01e502045af72078f58"), looks := false }, kinds := [], alts := [], laidByText := true, laidKinds := [.data, .pinned], laidTests := true, laidLooks := .later }
def WalkPartsCardSaid : Prop := Claim7.holds Tryz.pinned (.plain (OpenSpec.ofChange walkPartsSpec)) walkPartsCard

/-- THE TIED CARD OF 'warrenlaw12.WalkRoots'. -/
def walkRootsCard : Claim7 := { stood := { row := walkRootsRow, standIns := [], harness := (true, "dda02edbce1c1e36301eb499a0d1dfc603854f2dac22a01e502045af72078f58"), looks := false }, kinds := [], alts := [], laidByText := true, laidKinds := [.data, .pinned], laidTests := true, laidLooks := .later }
def WalkRootsCardSaid : Prop := Claim7.holds Tryz.pinned (.plain (OpenSpec.ofChange walkRootsSpec)) walkRootsCard

/-- THE TIED CARD OF 'warrenlaw12.WalkSteps'. -/
def walkStepsCard : Claim7 := { stood := { row := walkStepsRow, standIns := [], harness := (true, "dda02edbce1c1e36301eb499a0d1dfc603854f2dac22a01e502045af72078f58"), looks := false }, kinds := [], alts := [], laidByText := true, laidKinds := [.data, .pinned], laidTests := true, laidLooks := .later }
def WalkStepsCardSaid : Prop := Claim7.holds Tryz.pinned (.plain (OpenSpec.ofChange walkStepsSpec)) walkStepsCard

/-- THE TIED CARD OF 'warrenlaw22.WalkerTwice'. -/
def walkerTwiceCard : Claim7 := { stood := { row := walkerTwiceRow, standIns := [], harness := (true, "dda02edbce1c1e36301eb499a0d1dfc603854f2dac22a01e502045af72078f58"), looks := false }, kinds := [], alts := [], laidByText := true, laidKinds := [.data, .pinned], laidTests := true, laidLooks := .later }
def WalkerTwiceCardSaid : Prop := Claim7.holds Tryz.pinned (.plain (OpenSpec.ofChange walkerTwiceSpec)) walkerTwiceCard

/-- THE TIED CARD OF 'warrenlaw22.WalkerDisturbed'. -/
def walkerDisturbedCard : Claim7 := { stood := { row := walkerDisturbedRow, standIns := [], harness := (true, "dda02edbce1c1e36301eb499a0d1dfc603854f2dac22a01e502045af72078f58"), looks := false }, kinds := [], alts := [], laidByText := true, laidKinds := [.data, .pinned], laidTests := true, laidLooks := .later }
def WalkerDisturbedCardSaid : Prop := Claim7.holds Tryz.pinned (.plain (OpenSpec.ofChange walkerDisturbedSpec)) walkerDisturbedCard

/-- THE TIED CARD OF 'warrenlaw22.WalkerNumbers'. -/
def walkerNumbersCard : Claim7 := { stood := { row := walkerNumbersRow, standIns := [], harness := (true, "dda02edbce1c1e36301eb499a0d1dfc603854f2dac22a01e502045af72078f58"), looks := false }, kinds := [], alts := [], laidByText := true, laidKinds := [.data, .pinned], laidTests := true, laidLooks := .later }
def WalkerNumbersCardSaid : Prop := Claim7.holds Tryz.pinned (.plain (OpenSpec.ofChange walkerNumbersSpec)) walkerNumbersCard

/-- THE TIED CARD OF 'warrenlaw22.WalkerRename'. -/
def walkerRenameCard : Claim7 := { stood := { row := walkerRenameRow, standIns := [], harness := (true, "dda02edbce1c1e36301eb499a0d1dfc603854f2dac22a01e502045af72078f58"), looks := false }, kinds := [], alts := [], laidByText := true, laidKinds := [.data, .pinned], laidTests := true, laidLooks := .later }
def WalkerRenameCardSaid : Prop := Claim7.holds Tryz.pinned (.plain (OpenSpec.ofChange walkerRenameSpec)) walkerRenameCard

/-- THE TIED CARD OF 'warrenlaw22.WalkerAlone'. -/
def walkerAloneCard : Claim7 := { stood := { row := walkerAloneRow, standIns := [], harness := (true, "dda02edbce1c1e36301eb499a0d1dfc603854f2dac22a01e502045af72078f58"), looks := false }, kinds := [], alts := [], laidByText := true, laidKinds := [.data, .pinned], laidTests := true, laidLooks := .later }
def WalkerAloneCardSaid : Prop := Claim7.holds Tryz.pinned (.plain (OpenSpec.ofChange walkerAloneSpec)) walkerAloneCard

/-- THE SECOND FORM's CARD OF 'warrenlaw12.WalkParts'. -/
def walkPartsUptoCard : Claim7 := { stood := { row := walkPartsUptoRow, standIns := [], harness := (true, "dda02edbce1c1e36301eb499a0d1dfc603854f2dac22a01e502045af72078f58"), looks := false }, kinds := [], alts := [], laidByText := true, laidKinds := [.data, .pinned], laidTests := true, laidLooks := .later }
def WalkPartsUptoCardSaid : Prop := Claim7.holds Tryz.pinned (.plain (OpenSpec.upto walkPartsSpec)) walkPartsUptoCard

/-- THE SECOND FORM's CARD OF 'warrenlaw12.WalkRoots'. -/
def walkRootsUptoCard : Claim7 := { stood := { row := walkRootsUptoRow, standIns := [], harness := (true, "dda02edbce1c1e36301eb499a0d1dfc603854f2dac22a01e502045af72078f58"), looks := false }, kinds := [], alts := [], laidByText := true, laidKinds := [.data, .pinned], laidTests := true, laidLooks := .later }
def WalkRootsUptoCardSaid : Prop := Claim7.holds Tryz.pinned (.plain (OpenSpec.upto walkRootsSpec)) walkRootsUptoCard

/-- THE SECOND FORM's CARD OF 'warrenlaw12.WalkSteps'. -/
def walkStepsUptoCard : Claim7 := { stood := { row := walkStepsUptoRow, standIns := [], harness := (true, "dda02edbce1c1e36301eb499a0d1dfc603854f2dac22a01e502045af72078f58"), looks := false }, kinds := [], alts := [], laidByText := true, laidKinds := [.data, .pinned], laidTests := true, laidLooks := .later }
def WalkStepsUptoCardSaid : Prop := Claim7.holds Tryz.pinned (.plain (OpenSpec.upto walkStepsSpec)) walkStepsUptoCard

/-- THE SECOND FORM's CARD OF 'warrenlaw22.WalkerTwice'. -/
def walkerTwiceUptoCard : Claim7 := { stood := { row := walkerTwiceUptoRow, standIns := [], harness := (true, "dda02edbce1c1e36301eb499a0d1dfc603854f2dac22a01e502045af72078f58"), looks := false }, kinds := [], alts := [], laidByText := true, laidKinds := [.data, .pinned], laidTests := true, laidLooks := .later }
def WalkerTwiceUptoCardSaid : Prop := Claim7.holds Tryz.pinned (.plain (OpenSpec.upto walkerTwiceSpec)) walkerTwiceUptoCard

/-- THE SECOND FORM's CARD OF 'warrenlaw22.WalkerDisturbed'. -/
def walkerDisturbedUptoCard : Claim7 := { stood := { row := walkerDisturbedUptoRow, standIns := [], harness := (true, "dda02edbce1c1e36301eb499a0d1dfc603854f2dac22a01e502045af72078f58"), looks := false }, kinds := [], alts := [], laidByText := true, laidKinds := [.data, .pinned], laidTests := true, laidLooks := .later }
def WalkerDisturbedUptoCardSaid : Prop := Claim7.holds Tryz.pinned (.plain (OpenSpec.upto walkerDisturbedSpec)) walkerDisturbedUptoCard

/-- THE SECOND FORM's CARD OF 'warrenlaw22.WalkerNumbers'. -/
def walkerNumbersUptoCard : Claim7 := { stood := { row := walkerNumbersUptoRow, standIns := [], harness := (true, "dda02edbce1c1e36301eb499a0d1dfc603854f2dac22a01e502045af72078f58"), looks := false }, kinds := [], alts := [], laidByText := true, laidKinds := [.data, .pinned], laidTests := true, laidLooks := .later }
def WalkerNumbersUptoCardSaid : Prop := Claim7.holds Tryz.pinned (.plain (OpenSpec.upto walkerNumbersSpec)) walkerNumbersUptoCard

/-- THE SECOND FORM's CARD OF 'warrenlaw22.WalkerRename'. -/
def walkerRenameUptoCard : Claim7 := { stood := { row := walkerRenameUptoRow, standIns := [], harness := (true, "dda02edbce1c1e36301eb499a0d1dfc603854f2dac22a01e502045af72078f58"), looks := false }, kinds := [], alts := [], laidByText := true, laidKinds := [.data, .pinned], laidTests := true, laidLooks := .later }
def WalkerRenameUptoCardSaid : Prop := Claim7.holds Tryz.pinned (.plain (OpenSpec.upto walkerRenameSpec)) walkerRenameUptoCard

/-- THE SECOND FORM's CARD OF 'warrenlaw22.WalkerAlone'. -/
def walkerAloneUptoCard : Claim7 := { stood := { row := walkerAloneUptoRow, standIns := [], harness := (true, "dda02edbce1c1e36301eb499a0d1dfc603854f2dac22a01e502045af72078f58"), looks := false }, kinds := [], alts := [], laidByText := true, laidKinds := [.data, .pinned], laidTests := true, laidLooks := .later }
def WalkerAloneUptoCardSaid : Prop := Claim7.holds Tryz.pinned (.plain (OpenSpec.upto walkerAloneSpec)) walkerAloneUptoCard
end Rows
end Go.Proofs.YtoanccechefclaaGreatDoor
