/-
  DERIVED. GIVEN WITH THE SEED: THE CARDS: each row of YtbnjmeeaaieicaaDoorRows.lean that lists a variable, with what it lists TIED to the program's text (the seventh form; the later family's looks); each row that meets fmt, with fmt's text TOLD by the authors' own Lean function (tested against real Go, not proved from fmt's source: count such statements apart). THE CARD IS WHAT COUNTS. Prove the row's statement (the work); the ties are given (YtbnjmeeaaieicaaDoorTie.lean); close each card by the builder's one call (the guide's Derived/Test/ToyasCard.lean, 'card_holds'). Laid BY PROGRAM, IN A SANDBOX (cutbox-door.mjs). By AI agents, Wed Nov 11 2026. No macro, syntax, notation, axiom, sorry.
-/
import Derived.Test.YtbnjmeeaaieicaaDoorRows
import GoSem.ClaimSeven
namespace Go.Proofs.YtbnjmeeaaieicaaDoor
namespace Rows

/-- THE TIED CARD OF 'algebristlaw07.ModpFields'. -/
def modpFieldsCard : Claim7 := { stood := { row := modpFieldsRow, standIns := [], harness := (true, "4de122a5fde6aeae1985d6993aca6b6d8ad41f79ad34da8af1bea4f07073641f"), looks := false }, kinds := [], alts := [], laidByText := true, laidKinds := [.data, .data], laidTests := true, laidLooks := .later }
def ModpFieldsCardSaid : Prop := Claim7.holds Tryd.pinned (.plain (OpenSpec.ofChange modpFieldsSpec)) modpFieldsCard

/-- THE TIED CARD OF 'algebristlaw07.ModpSums'. -/
def modpSumsCard : Claim7 := { stood := { row := modpSumsRow, standIns := [], harness := (true, "4de122a5fde6aeae1985d6993aca6b6d8ad41f79ad34da8af1bea4f07073641f"), looks := false }, kinds := [], alts := [], laidByText := true, laidKinds := [.data, .data], laidTests := true, laidLooks := .later }
def ModpSumsCardSaid : Prop := Claim7.holds Tryd.pinned (.plain (OpenSpec.ofChange modpSumsSpec)) modpSumsCard

/-- THE TIED CARD OF 'algebristlaw07.ModpPowers'. -/
def modpPowersCard : Claim7 := { stood := { row := modpPowersRow, standIns := [], harness := (true, "4de122a5fde6aeae1985d6993aca6b6d8ad41f79ad34da8af1bea4f07073641f"), looks := false }, kinds := [], alts := [], laidByText := true, laidKinds := [.data, .data], laidTests := true, laidLooks := .later }
def ModpPowersCardSaid : Prop := Claim7.holds Tryd.pinned (.plain (OpenSpec.ofChange modpPowersSpec)) modpPowersCard

/-- THE TIED CARD OF 'algebristlaw07.ModpInverses'. -/
def modpInversesCard : Claim7 := { stood := { row := modpInversesRow, standIns := [], harness := (true, "4de122a5fde6aeae1985d6993aca6b6d8ad41f79ad34da8af1bea4f07073641f"), looks := false }, kinds := [], alts := [], laidByText := true, laidKinds := [.data, .data], laidTests := true, laidLooks := .later }
def ModpInversesCardSaid : Prop := Claim7.holds Tryd.pinned (.plain (OpenSpec.ofChange modpInversesSpec)) modpInversesCard

/-- THE TIED CARD OF 'algebristlaw07.ModpOrders'. -/
def modpOrdersCard : Claim7 := { stood := { row := modpOrdersRow, standIns := [], harness := (true, "4de122a5fde6aeae1985d6993aca6b6d8ad41f79ad34da8af1bea4f07073641f"), looks := false }, kinds := [], alts := [], laidByText := true, laidKinds := [.data, .data], laidTests := true, laidLooks := .later }
def ModpOrdersCardSaid : Prop := Claim7.holds Tryd.pinned (.plain (OpenSpec.ofChange modpOrdersSpec)) modpOrdersCard

/-- THE TIED CARD OF 'algebristlaw07.ModpLeast'. -/
def modpLeastCard : Claim7 := { stood := { row := modpLeastRow, standIns := [], harness := (true, "4de122a5fde6aeae1985d6993aca6b6d8ad41f79ad34da8af1bea4f07073641f"), looks := false }, kinds := [], alts := [], laidByText := true, laidKinds := [.data, .data], laidTests := true, laidLooks := .later }
def ModpLeastCardSaid : Prop := Claim7.holds Tryd.pinned (.plain (OpenSpec.ofChange modpLeastSpec)) modpLeastCard

/-- THE TIED CARD OF 'algebristlaw07.ModpRoots'. -/
def modpRootsCard : Claim7 := { stood := { row := modpRootsRow, standIns := [], harness := (true, "4de122a5fde6aeae1985d6993aca6b6d8ad41f79ad34da8af1bea4f07073641f"), looks := false }, kinds := [], alts := [], laidByText := true, laidKinds := [.data, .data], laidTests := true, laidLooks := .later }
def ModpRootsCardSaid : Prop := Claim7.holds Tryd.pinned (.plain (OpenSpec.ofChange modpRootsSpec)) modpRootsCard

/-- THE TIED CARD OF 'algebristlaw07.ModpSquares'. -/
def modpSquaresCard : Claim7 := { stood := { row := modpSquaresRow, standIns := [], harness := (true, "4de122a5fde6aeae1985d6993aca6b6d8ad41f79ad34da8af1bea4f07073641f"), looks := false }, kinds := [], alts := [], laidByText := true, laidKinds := [.data, .data], laidTests := true, laidLooks := .later }
def ModpSquaresCardSaid : Prop := Claim7.holds Tryd.pinned (.plain (OpenSpec.ofChange modpSquaresSpec)) modpSquaresCard

/-- THE TIED CARD OF 'algebristlaw07.ModpLaws'. -/
def modpLawsCard : Claim7 := { stood := { row := modpLawsRow, standIns := [], harness := (true, "4de122a5fde6aeae1985d6993aca6b6d8ad41f79ad34da8af1bea4f07073641f"), looks := false }, kinds := [], alts := [], laidByText := true, laidKinds := [.data, .data], laidTests := true, laidLooks := .later }
def ModpLawsCardSaid : Prop := Claim7.holds Tryd.pinned (.plain (OpenSpec.ofChange modpLawsSpec)) modpLawsCard

/-- THE TIED CARD OF 'algebristlaw09.PpolySums'. -/
def ppolySumsCard : Claim7 := { stood := { row := ppolySumsRow, standIns := [], harness := (true, "4de122a5fde6aeae1985d6993aca6b6d8ad41f79ad34da8af1bea4f07073641f"), looks := false }, kinds := [], alts := [], laidByText := true, laidKinds := [.data], laidTests := true, laidLooks := .later }
def PpolySumsCardSaid : Prop := Claim7.holds Tryd.pinned (.plain (OpenSpec.ofChange ppolySumsSpec)) ppolySumsCard

/-- THE TIED CARD OF 'algebristlaw09.PpolyPowers'. -/
def ppolyPowersCard : Claim7 := { stood := { row := ppolyPowersRow, standIns := [], harness := (true, "4de122a5fde6aeae1985d6993aca6b6d8ad41f79ad34da8af1bea4f07073641f"), looks := false }, kinds := [], alts := [], laidByText := true, laidKinds := [.data], laidTests := true, laidLooks := .later }
def PpolyPowersCardSaid : Prop := Claim7.holds Tryd.pinned (.plain (OpenSpec.ofChange ppolyPowersSpec)) ppolyPowersCard

/-- THE TIED CARD OF 'algebristlaw09.PpolyFrom'. -/
def ppolyFromCard : Claim7 := { stood := { row := ppolyFromRow, standIns := [], harness := (true, "4de122a5fde6aeae1985d6993aca6b6d8ad41f79ad34da8af1bea4f07073641f"), looks := false }, kinds := [], alts := [], laidByText := true, laidKinds := [.data], laidTests := true, laidLooks := .later }
def PpolyFromCardSaid : Prop := Claim7.holds Tryd.pinned (.plain (OpenSpec.ofChange ppolyFromSpec)) ppolyFromCard

/-- THE SECOND FORM's CARD OF 'algebristlaw07.ModpFields'. -/
def modpFieldsUptoCard : Claim7 := { stood := { row := modpFieldsUptoRow, standIns := [], harness := (true, "4de122a5fde6aeae1985d6993aca6b6d8ad41f79ad34da8af1bea4f07073641f"), looks := false }, kinds := [], alts := [], laidByText := true, laidKinds := [.data, .data], laidTests := true, laidLooks := .later }
def ModpFieldsUptoCardSaid : Prop := Claim7.holds Tryd.pinned (.plain (OpenSpec.upto modpFieldsSpec)) modpFieldsUptoCard

/-- THE SECOND FORM's CARD OF 'algebristlaw07.ModpSums'. -/
def modpSumsUptoCard : Claim7 := { stood := { row := modpSumsUptoRow, standIns := [], harness := (true, "4de122a5fde6aeae1985d6993aca6b6d8ad41f79ad34da8af1bea4f07073641f"), looks := false }, kinds := [], alts := [], laidByText := true, laidKinds := [.data, .data], laidTests := true, laidLooks := .later }
def ModpSumsUptoCardSaid : Prop := Claim7.holds Tryd.pinned (.plain (OpenSpec.upto modpSumsSpec)) modpSumsUptoCard

/-- THE SECOND FORM's CARD OF 'algebristlaw07.ModpPowers'. -/
def modpPowersUptoCard : Claim7 := { stood := { row := modpPowersUptoRow, standIns := [], harness := (true, "4de122a5fde6aeae1985d6993aca6b6d8ad41f79ad34da8af1bea4f07073641f"), looks := false }, kinds := [], alts := [], laidByText := true, laidKinds := [.data, .data], laidTests := true, laidLooks := .later }
def ModpPowersUptoCardSaid : Prop := Claim7.holds Tryd.pinned (.plain (OpenSpec.upto modpPowersSpec)) modpPowersUptoCard

/-- THE SECOND FORM's CARD OF 'algebristlaw07.ModpInverses'. -/
def modpInversesUptoCard : Claim7 := { stood := { row := modpInversesUptoRow, standIns := [], harness := (true, "4de122a5fde6aeae1985d6993aca6b6d8ad41f79ad34da8af1bea4f07073641f"), looks := false }, kinds := [], alts := [], laidByText := true, laidKinds := [.data, .data], laidTests := true, laidLooks := .later }
def ModpInversesUptoCardSaid : Prop := Claim7.holds Tryd.pinned (.plain (OpenSpec.upto modpInversesSpec)) modpInversesUptoCard

/-- THE SECOND FORM's CARD OF 'algebristlaw07.ModpOrders'. -/
def modpOrdersUptoCard : Claim7 := { stood := { row := modpOrdersUptoRow, standIns := [], harness := (true, "4de122a5fde6aeae1985d6993aca6b6d8ad41f79ad34da8af1bea4f07073641f"), looks := false }, kinds := [], alts := [], laidByText := true, laidKinds := [.data, .data], laidTests := true, laidLooks := .later }
def ModpOrdersUptoCardSaid : Prop := Claim7.holds Tryd.pinned (.plain (OpenSpec.upto modpOrdersSpec)) modpOrdersUptoCard

/-- THE SECOND FORM's CARD OF 'algebristlaw07.ModpLeast'. -/
def modpLeastUptoCard : Claim7 := { stood := { row := modpLeastUptoRow, standIns := [], harness := (true, "4de122a5fde6aeae1985d6993aca6b6d8ad41f79ad34da8af1bea4f07073641f"), looks := false }, kinds := [], alts := [], laidByText := true, laidKinds := [.data, .data], laidTests := true, laidLooks := .later }
def ModpLeastUptoCardSaid : Prop := Claim7.holds Tryd.pinned (.plain (OpenSpec.upto modpLeastSpec)) modpLeastUptoCard

/-- THE SECOND FORM's CARD OF 'algebristlaw07.ModpRoots'. -/
def modpRootsUptoCard : Claim7 := { stood := { row := modpRootsUptoRow, standIns := [], harness := (true, "4de122a5fde6aeae1985d6993aca6b6d8ad41f79ad34da8af1bea4f07073641f"), looks := false }, kinds := [], alts := [], laidByText := true, laidKinds := [.data, .data], laidTests := true, laidLooks := .later }
def ModpRootsUptoCardSaid : Prop := Claim7.holds Tryd.pinned (.plain (OpenSpec.upto modpRootsSpec)) modpRootsUptoCard

/-- THE SECOND FORM's CARD OF 'algebristlaw07.ModpSquares'. -/
def modpSquaresUptoCard : Claim7 := { stood := { row := modpSquaresUptoRow, standIns := [], harness := (true, "4de122a5fde6aeae1985d6993aca6b6d8ad41f79ad34da8af1bea4f07073641f"), looks := false }, kinds := [], alts := [], laidByText := true, laidKinds := [.data, .data], laidTests := true, laidLooks := .later }
def ModpSquaresUptoCardSaid : Prop := Claim7.holds Tryd.pinned (.plain (OpenSpec.upto modpSquaresSpec)) modpSquaresUptoCard

/-- THE SECOND FORM's CARD OF 'algebristlaw07.ModpLaws'. -/
def modpLawsUptoCard : Claim7 := { stood := { row := modpLawsUptoRow, standIns := [], harness := (true, "4de122a5fde6aeae1985d6993aca6b6d8ad41f79ad34da8af1bea4f07073641f"), looks := false }, kinds := [], alts := [], laidByText := true, laidKinds := [.data, .data], laidTests := true, laidLooks := .later }
def ModpLawsUptoCardSaid : Prop := Claim7.holds Tryd.pinned (.plain (OpenSpec.upto modpLawsSpec)) modpLawsUptoCard

/-- THE SECOND FORM's CARD OF 'algebristlaw09.PpolySums'. -/
def ppolySumsUptoCard : Claim7 := { stood := { row := ppolySumsUptoRow, standIns := [], harness := (true, "4de122a5fde6aeae1985d6993aca6b6d8ad41f79ad34da8af1bea4f07073641f"), looks := false }, kinds := [], alts := [], laidByText := true, laidKinds := [.data], laidTests := true, laidLooks := .later }
def PpolySumsUptoCardSaid : Prop := Claim7.holds Tryd.pinned (.plain (OpenSpec.upto ppolySumsSpec)) ppolySumsUptoCard

/-- THE SECOND FORM's CARD OF 'algebristlaw09.PpolyPowers'. -/
def ppolyPowersUptoCard : Claim7 := { stood := { row := ppolyPowersUptoRow, standIns := [], harness := (true, "4de122a5fde6aeae1985d6993aca6b6d8ad41f79ad34da8af1bea4f07073641f"), looks := false }, kinds := [], alts := [], laidByText := true, laidKinds := [.data], laidTests := true, laidLooks := .later }
def PpolyPowersUptoCardSaid : Prop := Claim7.holds Tryd.pinned (.plain (OpenSpec.upto ppolyPowersSpec)) ppolyPowersUptoCard

/-- THE SECOND FORM's CARD OF 'algebristlaw09.PpolyFrom'. -/
def ppolyFromUptoCard : Claim7 := { stood := { row := ppolyFromUptoRow, standIns := [], harness := (true, "4de122a5fde6aeae1985d6993aca6b6d8ad41f79ad34da8af1bea4f07073641f"), looks := false }, kinds := [], alts := [], laidByText := true, laidKinds := [.data], laidTests := true, laidLooks := .later }
def PpolyFromUptoCardSaid : Prop := Claim7.holds Tryd.pinned (.plain (OpenSpec.upto ppolyFromSpec)) ppolyFromUptoCard
end Rows
end Go.Proofs.YtbnjmeeaaieicaaDoor
