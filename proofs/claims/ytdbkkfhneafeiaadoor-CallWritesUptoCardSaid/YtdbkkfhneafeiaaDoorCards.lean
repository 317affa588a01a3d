/-
  DERIVED. GIVEN WITH THE SEED: THE CARDS: each row of YtdbkkfhneafeiaaDoorRows.lean that lists a variable, with what it lists TIED to the program's text (the seventh form; the later family's looks); each row that meets fmt, with fmt's text TOLD by the authors' own Lean function (tested against real Go, not proved from fmt's source: count such statements apart). THE CARD IS WHAT COUNTS. Prove the row's statement (the work); the ties are given (YtdbkkfhneafeiaaDoorTie.lean); close each card by the builder's one call (the guide's Derived/Test/ToyasCard.lean, 'card_holds'). Laid BY PROGRAM, IN A SANDBOX (cutbox-door.mjs). By AI agents, Wed Nov 11 2026. No macro, syntax, notation, axiom, sorry.
-/
import Derived.Test.YtdbkkfhneafeiaaDoorRows
import GoSem.ClaimSeven
namespace Go.Proofs.YtdbkkfhneafeiaaDoor
namespace Rows

/-- THE TIED CARD OF 'warrenlaw16.CallReads'. -/
def callReadsCard : Claim7 := { stood := { row := callReadsRow, standIns := [], harness := (true, "427d388a7d3550a743826e83ba6ce99561bc80dbf76770c0e46d21cfa5623cf9"), looks := false }, kinds := [], alts := [], laidByText := true, laidKinds := [.data, .data, .data, .listed, .data], laidTests := true, laidLooks := .later }
def CallReadsCardSaid : Prop := Claim7.holds Tryd.pinned (.plain (OpenSpec.ofChange callReadsSpec)) callReadsCard

/-- THE TIED CARD OF 'warrenlaw16.CallTexts'. -/
def callTextsCard : Claim7 := { stood := { row := callTextsRow, standIns := [], harness := (true, "427d388a7d3550a743826e83ba6ce99561bc80dbf76770c0e46d21cfa5623cf9"), looks := false }, kinds := [], alts := [], laidByText := true, laidKinds := [.data, .data, .data, .listed, .data], laidTests := true, laidLooks := .later }
def CallTextsCardSaid : Prop := Claim7.holds Tryd.pinned (.plain (OpenSpec.ofChange callTextsSpec)) callTextsCard

/-- THE TIED CARD OF 'warrenlaw16.CallNumbers'. -/
def callNumbersCard : Claim7 := { stood := { row := callNumbersRow, standIns := [], harness := (true, "427d388a7d3550a743826e83ba6ce99561bc80dbf76770c0e46d21cfa5623cf9"), looks := false }, kinds := [], alts := [], laidByText := true, laidKinds := [.data, .data, .data, .listed, .data], laidTests := true, laidLooks := .later }
def CallNumbersCardSaid : Prop := Claim7.holds Tryd.pinned (.plain (OpenSpec.ofChange callNumbersSpec)) callNumbersCard

/-- THE TIED CARD OF 'warrenlaw16.CallWrites'. -/
def callWritesCard : Claim7 := { stood := { row := callWritesRow, standIns := [], harness := (true, "427d388a7d3550a743826e83ba6ce99561bc80dbf76770c0e46d21cfa5623cf9"), looks := false }, kinds := [], alts := [], laidByText := true, laidKinds := [.data, .data, .data, .listed, .data], laidTests := true, laidLooks := .later }
def CallWritesCardSaid : Prop := Claim7.holds Tryd.pinned (.plain (OpenSpec.ofChange callWritesSpec)) callWritesCard

/-- THE TIED CARD OF 'warrenlaw16.CallBack'. -/
def callBackCard : Claim7 := { stood := { row := callBackRow, standIns := [], harness := (true, "427d388a7d3550a743826e83ba6ce99561bc80dbf76770c0e46d21cfa5623cf9"), looks := false }, kinds := [], alts := [], laidByText := true, laidKinds := [.data, .data, .data, .listed, .data], laidTests := true, laidLooks := .later }
def CallBackCardSaid : Prop := Claim7.holds Tryd.pinned (.plain (OpenSpec.ofChange callBackSpec)) callBackCard

/-- THE TIED CARD OF 'warrenlaw16.CallSizes'. -/
def callSizesCard : Claim7 := { stood := { row := callSizesRow, standIns := [], harness := (true, "427d388a7d3550a743826e83ba6ce99561bc80dbf76770c0e46d21cfa5623cf9"), looks := false }, kinds := [], alts := [], laidByText := true, laidKinds := [.data, .data, .data, .listed, .data], laidTests := true, laidLooks := .later }
def CallSizesCardSaid : Prop := Claim7.holds Tryd.pinned (.plain (OpenSpec.ofChange callSizesSpec)) callSizesCard

/-- THE SECOND FORM's CARD OF 'warrenlaw16.CallReads'. -/
def callReadsUptoCard : Claim7 := { stood := { row := callReadsUptoRow, standIns := [], harness := (true, "427d388a7d3550a743826e83ba6ce99561bc80dbf76770c0e46d21cfa5623cf9"), looks := false }, kinds := [], alts := [], laidByText := true, laidKinds := [.data, .data, .data, .listed, .data], laidTests := true, laidLooks := .later }
def CallReadsUptoCardSaid : Prop := Claim7.holds Tryd.pinned (.plain (OpenSpec.upto callReadsSpec)) callReadsUptoCard

/-- THE SECOND FORM's CARD OF 'warrenlaw16.CallTexts'. -/
def callTextsUptoCard : Claim7 := { stood := { row := callTextsUptoRow, standIns := [], harness := (true, "427d388a7d3550a743826e83ba6ce99561bc80dbf76770c0e46d21cfa5623cf9"), looks := false }, kinds := [], alts := [], laidByText := true, laidKinds := [.data, .data, .data, .listed, .data], laidTests := true, laidLooks := .later }
def CallTextsUptoCardSaid : Prop := Claim7.holds Tryd.pinned (.plain (OpenSpec.upto callTextsSpec)) callTextsUptoCard

/-- THE SECOND FORM's CARD OF 'warrenlaw16.CallNumbers'. -/
def callNumbersUptoCard : Claim7 := { stood := { row := callNumbersUptoRow, standIns := [], harness := (true, "427d388a7d3550a743826e83ba6ce99561bc80dbf76770c0e46d21cfa5623cf9"), looks := false }, kinds := [], alts := [], laidByText := true, laidKinds := [.data, .data, .data, .listed, .data], laidTests := true, laidLooks := .later }
def CallNumbersUptoCardSaid : Prop := Claim7.holds Tryd.pinned (.plain (OpenSpec.upto callNumbersSpec)) callNumbersUptoCard

/-- THE SECOND FORM's CARD OF 'warrenlaw16.CallWrites'. -/
def callWritesUptoCard : Claim7 := { stood := { row := callWritesUptoRow, standIns := [], harness := (true, "427d388a7d3550a743826e83ba6ce99561bc80dbf76770c0e46d21cfa5623cf9"), looks := false }, kinds := [], alts := [], laidByText := true, laidKinds := [.data, .data, .data, .listed, .data], laidTests := true, laidLooks := .later }
def CallWritesUptoCardSaid : Prop := Claim7.holds Tryd.pinned (.plain (OpenSpec.upto callWritesSpec)) callWritesUptoCard

/-- THE SECOND FORM's CARD OF 'warrenlaw16.CallBack'. -/
def callBackUptoCard : Claim7 := { stood := { row := callBackUptoRow, standIns := [], harness := (true, "427d388a7d3550a743826e83ba6ce99561bc80dbf76770c0e46d21cfa5623cf9"), looks := false }, kinds := [], alts := [], laidByText := true, laidKinds := [.data, .data, .data, .listed, .data], laidTests := true, laidLooks := .later }
def CallBackUptoCardSaid : Prop := Claim7.holds Tryd.pinned (.plain (OpenSpec.upto callBackSpec)) callBackUptoCard

/-- THE SECOND FORM's CARD OF 'warrenlaw16.CallSizes'. -/
def callSizesUptoCard : Claim7 := { stood := { row := callSizesUptoRow, standIns := [], harness := (true, "427d388a7d3550a743826e83ba6ce99561bc80dbf76770c0e46d21cfa5623cf9"), looks := false }, kinds := [], alts := [], laidByText := true, laidKinds := [.data, .data, .data, .listed, .data], laidTests := true, laidLooks := .later }
def CallSizesUptoCardSaid : Prop := Claim7.holds Tryd.pinned (.plain (OpenSpec.upto callSizesSpec)) callSizesUptoCard
end Rows
end Go.Proofs.YtdbkkfhneafeiaaDoor
