/-
  DERIVED. GIVEN WITH THE SEED: THE CARDS: each row of YtcbhoedifgghhaaDoorRows.lean that lists a variable, with what it lists TIED to the program's text (the seventh form; the later family's looks); each row that meets fmt, with fmt's text TOLD by the authors' own Lean function (tested against real Go, not proved from fmt's source: count such statements apart). THE CARD IS WHAT COUNTS. Prove the row's statement (the work); the ties are given (YtcbhoedifgghhaaDoorTie.lean); close each card by the builder's one call (the guide's Derived/Test/ToyasCard.lean, 'card_holds'). Laid BY PROGRAM, IN A SANDBOX (cutbox-door.mjs). By AI agents, Wed Nov 11 2026. No macro, syntax, notation, axiom, sorry.
-/
import Derived.Test.YtcbhoedifgghhaaDoorRows
import GoSem.ClaimSeven
namespace Go.Proofs.YtcbhoedifgghhaaDoor
namespace Rows

/-- THE TIED CARD OF 'algebristlaw15.DegreesParts'. -/
def degreesPartsCard : Claim7 := { stood := { row := degreesPartsRow, standIns := [], harness := (true, "b86e7db31e6a3da1909ddf5499fffab8158d9e9b4576ff0b979c6ae6c9d4ccf5"), looks := false }, kinds := [], alts := [], laidByText := true, laidKinds := [.data], laidTests := true, laidLooks := .later }
def DegreesPartsCardSaid : Prop := Claim7.holds Tryd.pinned (.plain (OpenSpec.ofChange degreesPartsSpec)) degreesPartsCard

/-- THE TIED CARD OF 'algebristlaw15.DegreesProduct'. -/
def degreesProductCard : Claim7 := { stood := { row := degreesProductRow, standIns := [], harness := (true, "b86e7db31e6a3da1909ddf5499fffab8158d9e9b4576ff0b979c6ae6c9d4ccf5"), looks := false }, kinds := [], alts := [], laidByText := true, laidKinds := [.data], laidTests := true, laidLooks := .later }
def DegreesProductCardSaid : Prop := Claim7.holds Tryd.pinned (.plain (OpenSpec.ofChange degreesProductSpec)) degreesProductCard

/-- THE TIED CARD OF 'algebristlaw15.DegreesProves'. -/
def degreesProvesCard : Claim7 := { stood := { row := degreesProvesRow, standIns := [], harness := (true, "b86e7db31e6a3da1909ddf5499fffab8158d9e9b4576ff0b979c6ae6c9d4ccf5"), looks := false }, kinds := [], alts := [], laidByText := true, laidKinds := [.data], laidTests := true, laidLooks := .later }
def DegreesProvesCardSaid : Prop := Claim7.holds Tryd.pinned (.plain (OpenSpec.ofChange degreesProvesSpec)) degreesProvesCard

/-- THE TIED CARD OF 'algebristlaw15.DegreesTried'. -/
def degreesTriedCard : Claim7 := { stood := { row := degreesTriedRow, standIns := [], harness := (true, "b86e7db31e6a3da1909ddf5499fffab8158d9e9b4576ff0b979c6ae6c9d4ccf5"), looks := false }, kinds := [], alts := [], laidByText := true, laidKinds := [.data], laidTests := true, laidLooks := .later }
def DegreesTriedCardSaid : Prop := Claim7.holds Tryd.pinned (.plain (OpenSpec.ofChange degreesTriedSpec)) degreesTriedCard

/-- THE TIED CARD OF 'algebristlaw15.DegreesHolds'. -/
def degreesHoldsCard : Claim7 := { stood := { row := degreesHoldsRow, standIns := [], harness := (true, "b86e7db31e6a3da1909ddf5499fffab8158d9e9b4576ff0b979c6ae6c9d4ccf5"), looks := false }, kinds := [], alts := [], laidByText := true, laidKinds := [.data], laidTests := true, laidLooks := .later }
def DegreesHoldsCardSaid : Prop := Claim7.holds Tryd.pinned (.plain (OpenSpec.ofChange degreesHoldsSpec)) degreesHoldsCard

/-- THE TIED CARD OF 'algebristlaw15.DegreesCounts'. -/
def degreesCountsCard : Claim7 := { stood := { row := degreesCountsRow, standIns := [], harness := (true, "b86e7db31e6a3da1909ddf5499fffab8158d9e9b4576ff0b979c6ae6c9d4ccf5"), looks := false }, kinds := [], alts := [], laidByText := true, laidKinds := [.data], laidTests := true, laidLooks := .later }
def DegreesCountsCardSaid : Prop := Claim7.holds Tryd.pinned (.plain (OpenSpec.ofChange degreesCountsSpec)) degreesCountsCard

/-- THE TIED CARD OF 'algebristlaw15.DegreesNever'. -/
def degreesNeverCard : Claim7 := { stood := { row := degreesNeverRow, standIns := [], harness := (true, "b86e7db31e6a3da1909ddf5499fffab8158d9e9b4576ff0b979c6ae6c9d4ccf5"), looks := false }, kinds := [], alts := [], laidByText := true, laidKinds := [.data], laidTests := true, laidLooks := .later }
def DegreesNeverCardSaid : Prop := Claim7.holds Tryd.pinned (.plain (OpenSpec.ofChange degreesNeverSpec)) degreesNeverCard

/-- THE TIED CARD OF 'algebristlaw09.PpolySums'. -/
def ppolySumsCard : Claim7 := { stood := { row := ppolySumsRow, standIns := [], harness := (true, "b86e7db31e6a3da1909ddf5499fffab8158d9e9b4576ff0b979c6ae6c9d4ccf5"), looks := false }, kinds := [], alts := [], laidByText := true, laidKinds := [.data], laidTests := true, laidLooks := .later }
def PpolySumsCardSaid : Prop := Claim7.holds Tryd.pinned (.plain (OpenSpec.ofChange ppolySumsSpec)) ppolySumsCard

/-- THE TIED CARD OF 'algebristlaw09.PpolyRight'. -/
def ppolyRightCard : Claim7 := { stood := { row := ppolyRightRow, standIns := [], harness := (true, "b86e7db31e6a3da1909ddf5499fffab8158d9e9b4576ff0b979c6ae6c9d4ccf5"), looks := false }, kinds := [], alts := [], laidByText := true, laidKinds := [.data], laidTests := true, laidLooks := .later }
def PpolyRightCardSaid : Prop := Claim7.holds Tryd.pinned (.plain (OpenSpec.ofChange ppolyRightSpec)) ppolyRightCard

/-- THE SECOND FORM's CARD OF 'algebristlaw15.DegreesParts'. -/
def degreesPartsUptoCard : Claim7 := { stood := { row := degreesPartsUptoRow, standIns := [], harness := (true, "b86e7db31e6a3da1909ddf5499fffab8158d9e9b4576ff0b979c6ae6c9d4ccf5"), looks := false }, kinds := [], alts := [], laidByText := true, laidKinds := [.data], laidTests := true, laidLooks := .later }
def DegreesPartsUptoCardSaid : Prop := Claim7.holds Tryd.pinned (.plain (OpenSpec.upto degreesPartsSpec)) degreesPartsUptoCard

/-- THE SECOND FORM's CARD OF 'algebristlaw15.DegreesProduct'. -/
def degreesProductUptoCard : Claim7 := { stood := { row := degreesProductUptoRow, standIns := [], harness := (true, "b86e7db31e6a3da1909ddf5499fffab8158d9e9b4576ff0b979c6ae6c9d4ccf5"), looks := false }, kinds := [], alts := [], laidByText := true, laidKinds := [.data], laidTests := true, laidLooks := .later }
def DegreesProductUptoCardSaid : Prop := Claim7.holds Tryd.pinned (.plain (OpenSpec.upto degreesProductSpec)) degreesProductUptoCard

/-- THE SECOND FORM's CARD OF 'algebristlaw15.DegreesProves'. -/
def degreesProvesUptoCard : Claim7 := { stood := { row := degreesProvesUptoRow, standIns := [], harness := (true, "b86e7db31e6a3da1909ddf5499fffab8158d9e9b4576ff0b979c6ae6c9d4ccf5"), looks := false }, kinds := [], alts := [], laidByText := true, laidKinds := [.data], laidTests := true, laidLooks := .later }
def DegreesProvesUptoCardSaid : Prop := Claim7.holds Tryd.pinned (.plain (OpenSpec.upto degreesProvesSpec)) degreesProvesUptoCard

/-- THE SECOND FORM's CARD OF 'algebristlaw15.DegreesTried'. -/
def degreesTriedUptoCard : Claim7 := { stood := { row := degreesTriedUptoRow, standIns := [], harness := (true, "b86e7db31e6a3da1909ddf5499fffab8158d9e9b4576ff0b979c6ae6c9d4ccf5"), looks := false }, kinds := [], alts := [], laidByText := true, laidKinds := [.data], laidTests := true, laidLooks := .later }
def DegreesTriedUptoCardSaid : Prop := Claim7.holds Tryd.pinned (.plain (OpenSpec.upto degreesTriedSpec)) degreesTriedUptoCard

/-- THE SECOND FORM's CARD OF 'algebristlaw15.DegreesHolds'. -/
def degreesHoldsUptoCard : Claim7 := { stood := { row := degreesHoldsUptoRow, standIns := [], harness := (true, "b86e7db31e6a3da1909ddf5499fffab8158d9e9b4576ff0b979c6ae6c9d4ccf5"), looks := false }, kinds := [], alts := [], laidByText := true, laidKinds := [.data], laidTests := true, laidLooks := .later }
def DegreesHoldsUptoCardSaid : Prop := Claim7.holds Tryd.pinned (.plain (OpenSpec.upto degreesHoldsSpec)) degreesHoldsUptoCard

/-- THE SECOND FORM's CARD OF 'algebristlaw15.DegreesCounts'. -/
def degreesCountsUptoCard : Claim7 := { stood := { row := degreesCountsUptoRow, standIns := [], harness := (true, "b86e7db31e6a3da1909ddf5499fffab8158d9e9b4576ff0b979c6ae6c9d4ccf5"), looks := false }, kinds := [], alts := [], laidByText := true, laidKinds := [.data], laidTests := true, laidLooks := .later }
def DegreesCountsUptoCardSaid : Prop := Claim7.holds Tryd.pinned (.plain (OpenSpec.upto degreesCountsSpec)) degreesCountsUptoCard

/-- THE SECOND FORM's CARD OF 'algebristlaw15.DegreesNever'. -/
def degreesNeverUptoCard : Claim7 := { stood := { row := degreesNeverUptoRow, standIns := [], harness := (true, "b86e7db31e6a3da1909ddf5499fffab8158d9e9b4576ff0b979c6ae6c9d4ccf5"), looks := false }, kinds := [], alts := [], laidByText := true, laidKinds := [.data], laidTests := true, laidLooks := .later }
def DegreesNeverUptoCardSaid : Prop := Claim7.holds Tryd.pinned (.plain (OpenSpec.upto degreesNeverSpec)) degreesNeverUptoCard

/-- THE SECOND FORM's CARD OF 'algebristlaw09.PpolySums'. -/
def ppolySumsUptoCard : Claim7 := { stood := { row := ppolySumsUptoRow, standIns := [], harness := (true, "b86e7db31e6a3da1909ddf5499fffab8158d9e9b4576ff0b979c6ae6c9d4ccf5"), looks := false }, kinds := [], alts := [], laidByText := true, laidKinds := [.data], laidTests := true, laidLooks := .later }
def PpolySumsUptoCardSaid : Prop := Claim7.holds Tryd.pinned (.plain (OpenSpec.upto ppolySumsSpec)) ppolySumsUptoCard

/-- THE SECOND FORM's CARD OF 'algebristlaw09.PpolyRight'. -/
def ppolyRightUptoCard : Claim7 := { stood := { row := ppolyRightUptoRow, standIns := [], harness := (true, "b86e7db31e6a3da1909ddf5499fffab8158d9e9b4576ff0b979c6ae6c9d4ccf5"), looks := false }, kinds := [], alts := [], laidByText := true, laidKinds := [.data], laidTests := true, laidLooks := .later }
def PpolyRightUptoCardSaid : Prop := Claim7.holds Tryd.pinned (.plain (OpenSpec.upto ppolyRightSpec)) ppolyRightUptoCard
end Rows
end Go.Proofs.YtcbhoedifgghhaaDoor
