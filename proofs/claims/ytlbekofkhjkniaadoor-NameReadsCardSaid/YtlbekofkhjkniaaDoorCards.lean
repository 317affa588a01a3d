/-
  DERIVED. GIVEN WITH THE SEED: THE CARDS: each row of YtlbekofkhjkniaaDoorRows.lean that lists a variable, with what it lists TIED to the program's text (the seventh form; the later family's looks); each row that meets fmt, with fmt's text TOLD by the authors' own Lean function (tested against real Go, not proved from fmt's source: count such statements apart). THE CARD IS WHAT COUNTS. Prove the row's statement (the work); the ties are given (YtlbekofkhjkniaaDoorTie.lean); close each card by the builder's one call (the guide's Derived/Test/ToyasCard.lean, 'card_holds'). Laid BY PROGRAM, IN A SANDBOX (cutbox-door.mjs). By AI agents, Wed Nov 11 2026. No macro, syntax, notation, axiom, sorry.
-/
import Derived.Test.YtlbekofkhjkniaaDoorRows
import GoSem.ClaimSeven
namespace Go.Proofs.YtlbekofkhjkniaaDoor
namespace Rows

/-- THE TIED CARD OF 'warrenlaw7.NameClean'. -/
def nameCleanCard : Claim7 := { stood := { row := nameCleanRow, standIns := [], harness := (true, "5b78070fb825d5e912697c268999c61c77c2abe163e921a59d6e425d50132018"), looks := false }, kinds := [], alts := [], laidByText := true, laidKinds := [.data, .pinned], laidTests := true, laidLooks := .later }
def NameCleanCardSaid : Prop := Claim7.holds Tryd.pinned (.plain (OpenSpec.ofChange nameCleanSpec)) nameCleanCard

/-- THE TIED CARD OF 'warrenlaw7.NameJoins'. -/
def nameJoinsCard : Claim7 := { stood := { row := nameJoinsRow, standIns := [], harness := (true, "5b78070fb825d5e912697c268999c61c77c2abe163e921a59d6e425d50132018"), looks := false }, kinds := [], alts := [], laidByText := true, laidKinds := [.data, .pinned], laidTests := true, laidLooks := .later }
def NameJoinsCardSaid : Prop := Claim7.holds Tryd.pinned (.plain (OpenSpec.ofChange nameJoinsSpec)) nameJoinsCard

/-- THE TIED CARD OF 'warrenlaw7.NameSlashes'. -/
def nameSlashesCard : Claim7 := { stood := { row := nameSlashesRow, standIns := [], harness := (true, "5b78070fb825d5e912697c268999c61c77c2abe163e921a59d6e425d50132018"), looks := false }, kinds := [], alts := [], laidByText := true, laidKinds := [.data, .pinned], laidTests := true, laidLooks := .later }
def NameSlashesCardSaid : Prop := Claim7.holds Tryd.pinned (.plain (OpenSpec.ofChange nameSlashesSpec)) nameSlashesCard

/-- THE TIED CARD OF 'warrenlaw7.NameNumbers'. -/
def nameNumbersCard : Claim7 := { stood := { row := nameNumbersRow, standIns := [], harness := (true, "5b78070fb825d5e912697c268999c61c77c2abe163e921a59d6e425d50132018"), looks := false }, kinds := [], alts := [], laidByText := true, laidKinds := [.data, .pinned], laidTests := true, laidLooks := .later }
def NameNumbersCardSaid : Prop := Claim7.holds Tryd.pinned (.plain (OpenSpec.ofChange nameNumbersSpec)) nameNumbersCard

/-- THE TIED CARD OF 'warrenlaw7.NameReads'. -/
def nameReadsCard : Claim7 := { stood := { row := nameReadsRow, standIns := [], harness := (true, "5b78070fb825d5e912697c268999c61c77c2abe163e921a59d6e425d50132018"), looks := false }, kinds := [], alts := [], laidByText := true, laidKinds := [.data, .pinned], laidTests := true, laidLooks := .later }
def NameReadsCardSaid : Prop := Claim7.holds Tryd.pinned (.plain (OpenSpec.ofChange nameReadsSpec)) nameReadsCard

/-- THE TIED CARD OF 'warrenlaw7.NameBack'. -/
def nameBackCard : Claim7 := { stood := { row := nameBackRow, standIns := [], harness := (true, "5b78070fb825d5e912697c268999c61c77c2abe163e921a59d6e425d50132018"), looks := false }, kinds := [], alts := [], laidByText := true, laidKinds := [.data, .pinned], laidTests := true, laidLooks := .later }
def NameBackCardSaid : Prop := Claim7.holds Tryd.pinned (.plain (OpenSpec.ofChange nameBackSpec)) nameBackCard

/-- THE SECOND FORM's CARD OF 'warrenlaw7.NameClean'. -/
def nameCleanUptoCard : Claim7 := { stood := { row := nameCleanUptoRow, standIns := [], harness := (true, "5b78070fb825d5e912697c268999c61c77c2abe163e921a59d6e425d50132018"), looks := false }, kinds := [], alts := [], laidByText := true, laidKinds := [.data, .pinned], laidTests := true, laidLooks := .later }
def NameCleanUptoCardSaid : Prop := Claim7.holds Tryd.pinned (.plain (OpenSpec.upto nameCleanSpec)) nameCleanUptoCard

/-- THE SECOND FORM's CARD OF 'warrenlaw7.NameJoins'. -/
def nameJoinsUptoCard : Claim7 := { stood := { row := nameJoinsUptoRow, standIns := [], harness := (true, "5b78070fb825d5e912697c268999c61c77c2abe163e921a59d6e425d50132018"), looks := false }, kinds := [], alts := [], laidByText := true, laidKinds := [.data, .pinned], laidTests := true, laidLooks := .later }
def NameJoinsUptoCardSaid : Prop := Claim7.holds Tryd.pinned (.plain (OpenSpec.upto nameJoinsSpec)) nameJoinsUptoCard

/-- THE SECOND FORM's CARD OF 'warrenlaw7.NameSlashes'. -/
def nameSlashesUptoCard : Claim7 := { stood := { row := nameSlashesUptoRow, standIns := [], harness := (true, "5b78070fb825d5e912697c268999c61c77c2abe163e921a59d6e425d50132018"), looks := false }, kinds := [], alts := [], laidByText := true, laidKinds := [.data, .pinned], laidTests := true, laidLooks := .later }
def NameSlashesUptoCardSaid : Prop := Claim7.holds Tryd.pinned (.plain (OpenSpec.upto nameSlashesSpec)) nameSlashesUptoCard

/-- THE SECOND FORM's CARD OF 'warrenlaw7.NameNumbers'. -/
def nameNumbersUptoCard : Claim7 := { stood := { row := nameNumbersUptoRow, standIns := [], harness := (true, "5b78070fb825d5e912697c268999c61c77c2abe163e921a59d6e425d50132018"), looks := false }, kinds := [], alts := [], laidByText := true, laidKinds := [.data, .pinned], laidTests := true, laidLooks := .later }
def NameNumbersUptoCardSaid : Prop := Claim7.holds Tryd.pinned (.plain (OpenSpec.upto nameNumbersSpec)) nameNumbersUptoCard

/-- THE SECOND FORM's CARD OF 'warrenlaw7.NameReads'. -/
def nameReadsUptoCard : Claim7 := { stood := { row := nameReadsUptoRow, standIns := [], harness := (true, "5b78070fb825d5e912697c268999c61c77c2abe163e921a59d6e425d50132018"), looks := false }, kinds := [], alts := [], laidByText := true, laidKinds := [.data, .pinned], laidTests := true, laidLooks := .later }
def NameReadsUptoCardSaid : Prop := Claim7.holds Tryd.pinned (.plain (OpenSpec.upto nameReadsSpec)) nameReadsUptoCard

/-- THE SECOND FORM's CARD OF 'warrenlaw7.NameBack'. -/
def nameBackUptoCard : Claim7 := { stood := { row := nameBackUptoRow, standIns := [], harness := (true, "5b78070fb825d5e912697c268999c61c77c2abe163e921a59d6e425d50132018"), looks := false }, kinds := [], alts := [], laidByText := true, laidKinds := [.data, .pinned], laidTests := true, laidLooks := .later }
def NameBackUptoCardSaid : Prop := Claim7.holds Tryd.pinned (.plain (OpenSpec.upto nameBackSpec)) nameBackUptoCard
end Rows
end Go.Proofs.YtlbekofkhjkniaaDoor
