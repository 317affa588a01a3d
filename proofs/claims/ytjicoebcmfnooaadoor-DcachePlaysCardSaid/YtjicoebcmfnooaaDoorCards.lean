/-
  DERIVED. GIVEN WITH THE SEED: THE CARDS: each row of YtjicoebcmfnooaaDoorRows.lean that lists a variable, with what it lists TIED to the program's text (the seventh form; the later family's looks); each row that meets fmt, with fmt's text TOLD by the authors' own Lean function (tested against real Go, not proved from fmt's source: count such statements apart). THE CARD IS WHAT COUNTS. Prove the row's statement (the work); the ties are given (YtjicoebcmfnooaaDoorTie.lean); close each card by the builder's one call (the guide's Derived/Test/ToyasCard.lean, 'card_holds'). Laid BY PROGRAM, IN A SANDBOX (cutbox-door.mjs). By AI agents, Wed Nov 11 2026. No macro, syntax, notation, axiom, sorry.
-/
import Derived.Test.YtjicoebcmfnooaaDoorRows
import GoSem.ClaimSeven
namespace Go.Proofs.YtjicoebcmfnooaaDoor
namespace Rows

/-- THE TIED CARD OF 'warrenlaw20.DcacheLast'. -/
def dcacheLastCard : Claim7 := { stood := { row := dcacheLastRow, standIns := [], harness := (true, "4098a80231a37f50c51a1dc3923b9f310711d6e55be3f0b264175b504d157adc"), looks := false }, kinds := [], alts := [], laidByText := true, laidKinds := [.data, .data, .data], laidTests := true, laidLooks := .later }
def DcacheLastCardSaid : Prop := Claim7.holds Tryd.pinned (.plain (OpenSpec.ofChange dcacheLastSpec)) dcacheLastCard

/-- THE TIED CARD OF 'warrenlaw20.DcacheDirs'. -/
def dcacheDirsCard : Claim7 := { stood := { row := dcacheDirsRow, standIns := [], harness := (true, "4098a80231a37f50c51a1dc3923b9f310711d6e55be3f0b264175b504d157adc"), looks := false }, kinds := [], alts := [], laidByText := true, laidKinds := [.data, .data, .data], laidTests := true, laidLooks := .later }
def DcacheDirsCardSaid : Prop := Claim7.holds Tryd.pinned (.plain (OpenSpec.ofChange dcacheDirsSpec)) dcacheDirsCard

/-- THE TIED CARD OF 'warrenlaw20.DcacheNumbers'. -/
def dcacheNumbersCard : Claim7 := { stood := { row := dcacheNumbersRow, standIns := [], harness := (true, "4098a80231a37f50c51a1dc3923b9f310711d6e55be3f0b264175b504d157adc"), looks := false }, kinds := [], alts := [], laidByText := true, laidKinds := [.data, .data, .data], laidTests := true, laidLooks := .later }
def DcacheNumbersCardSaid : Prop := Claim7.holds Tryd.pinned (.plain (OpenSpec.ofChange dcacheNumbersSpec)) dcacheNumbersCard

/-- THE TIED CARD OF 'warrenlaw20.DcachePlays'. -/
def dcachePlaysCard : Claim7 := { stood := { row := dcachePlaysRow, standIns := [], harness := (true, "4098a80231a37f50c51a1dc3923b9f310711d6e55be3f0b264175b504d157adc"), looks := false }, kinds := [], alts := [], laidByText := true, laidKinds := [.data, .data, .data], laidTests := true, laidLooks := .later }
def DcachePlaysCardSaid : Prop := Claim7.holds Tryd.pinned (.plain (OpenSpec.ofChange dcachePlaysSpec)) dcachePlaysCard

/-- THE SECOND FORM's CARD OF 'warrenlaw20.DcacheLast'. -/
def dcacheLastUptoCard : Claim7 := { stood := { row := dcacheLastUptoRow, standIns := [], harness := (true, "4098a80231a37f50c51a1dc3923b9f310711d6e55be3f0b264175b504d157adc"), looks := false }, kinds := [], alts := [], laidByText := true, laidKinds := [.data, .data, .data], laidTests := true, laidLooks := .later }
def DcacheLastUptoCardSaid : Prop := Claim7.holds Tryd.pinned (.plain (OpenSpec.upto dcacheLastSpec)) dcacheLastUptoCard

/-- THE SECOND FORM's CARD OF 'warrenlaw20.DcacheDirs'. -/
def dcacheDirsUptoCard : Claim7 := { stood := { row := dcacheDirsUptoRow, standIns := [], harness := (true, "4098a80231a37f50c51a1dc3923b9f310711d6e55be3f0b264175b504d157adc"), looks := false }, kinds := [], alts := [], laidByText := true, laidKinds := [.data, .data, .data], laidTests := true, laidLooks := .later }
def DcacheDirsUptoCardSaid : Prop := Claim7.holds Tryd.pinned (.plain (OpenSpec.upto dcacheDirsSpec)) dcacheDirsUptoCard

/-- THE SECOND FORM's CARD OF 'warrenlaw20.DcacheNumbers'. -/
def dcacheNumbersUptoCard : Claim7 := { stood := { row := dcacheNumbersUptoRow, standIns := [], harness := (true, "4098a80231a37f50c51a1dc3923b9f310711d6e55be3f0b264175b504d157adc"), looks := false }, kinds := [], alts := [], laidByText := true, laidKinds := [.data, .data, .data], laidTests := true, laidLooks := .later }
def DcacheNumbersUptoCardSaid : Prop := Claim7.holds Tryd.pinned (.plain (OpenSpec.upto dcacheNumbersSpec)) dcacheNumbersUptoCard

/-- THE SECOND FORM's CARD OF 'warrenlaw20.DcachePlays'. -/
def dcachePlaysUptoCard : Claim7 := { stood := { row := dcachePlaysUptoRow, standIns := [], harness := (true, "4098a80231a37f50c51a1dc3923b9f310711d6e55be3f0b264175b504d157adc"), looks := false }, kinds := [], alts := [], laidByText := true, laidKinds := [.data, .data, .data], laidTests := true, laidLooks := .later }
def DcachePlaysUptoCardSaid : Prop := Claim7.holds Tryd.pinned (.plain (OpenSpec.upto dcachePlaysSpec)) dcachePlaysUptoCard
end Rows
end Go.Proofs.YtjicoebcmfnooaaDoor
