/-
  DERIVED. GIVEN WITH THE SEED: THE CARDS: each row of YtcefhnmhcapccaaDoorRows.lean that lists a variable, with what it lists TIED to the program's text (the seventh form; the later family's looks); each row that meets fmt, with fmt's text TOLD by the authors' own Lean function (tested against real Go, not proved from fmt's source: count such statements apart). THE CARD IS WHAT COUNTS. Prove the row's statement (the work); the ties are given (YtcefhnmhcapccaaDoorTie.lean); close each card by the builder's one call (the guide's Derived/Test/ToyasCard.lean, 'card_holds'). Laid BY PROGRAM, IN A SANDBOX (cutbox-door.mjs). By AI agents, Wed Nov 11 2026. No macro, syntax, notation, axiom, sorry.
-/
import Derived.Test.YtcefhnmhcapccaaDoorRows
import GoSem.ClaimSeven
namespace Go.Proofs.YtcefhnmhcapccaaDoor
namespace Rows

/-- THE TIED CARD OF 'algebristlaw09.PpolyDivides'. -/
def ppolyDividesCard : Claim7 := { stood := { row := ppolyDividesRow, standIns := [], harness := (true, "36bedacbe3b66477d1b414e0ff66ac871c6de65ddf05cb1c97208d9c3a605ec5"), looks := false }, kinds := [], alts := [], laidByText := true, laidKinds := [.data], laidTests := true, laidLooks := .later }
def PpolyDividesCardSaid : Prop := Claim7.holds Tryd.pinned (.plain (OpenSpec.ofChange ppolyDividesSpec)) ppolyDividesCard

/-- THE TIED CARD OF 'algebristlaw09.PpolyGcd'. -/
def ppolyGcdCard : Claim7 := { stood := { row := ppolyGcdRow, standIns := [], harness := (true, "36bedacbe3b66477d1b414e0ff66ac871c6de65ddf05cb1c97208d9c3a605ec5"), looks := false }, kinds := [], alts := [], laidByText := true, laidKinds := [.data], laidTests := true, laidLooks := .later }
def PpolyGcdCardSaid : Prop := Claim7.holds Tryd.pinned (.plain (OpenSpec.ofChange ppolyGcdSpec)) ppolyGcdCard

/-- THE TIED CARD OF 'algebristlaw09.PpolyHolds'. -/
def ppolyHoldsCard : Claim7 := { stood := { row := ppolyHoldsRow, standIns := [], harness := (true, "36bedacbe3b66477d1b414e0ff66ac871c6de65ddf05cb1c97208d9c3a605ec5"), looks := false }, kinds := [], alts := [], laidByText := true, laidKinds := [.data], laidTests := true, laidLooks := .later }
def PpolyHoldsCardSaid : Prop := Claim7.holds Tryd.pinned (.plain (OpenSpec.ofChange ppolyHoldsSpec)) ppolyHoldsCard

/-- THE TIED CARD OF 'algebristlaw09.PpolyRing'. -/
def ppolyRingCard : Claim7 := { stood := { row := ppolyRingRow, standIns := [], harness := (true, "36bedacbe3b66477d1b414e0ff66ac871c6de65ddf05cb1c97208d9c3a605ec5"), looks := false }, kinds := [], alts := [], laidByText := true, laidKinds := [.data], laidTests := true, laidLooks := .later }
def PpolyRingCardSaid : Prop := Claim7.holds Tryd.pinned (.plain (OpenSpec.ofChange ppolyRingSpec)) ppolyRingCard

/-- THE TIED CARD OF 'algebristlaw09.PpolySums'. -/
def ppolySumsCard : Claim7 := { stood := { row := ppolySumsRow, standIns := [], harness := (true, "36bedacbe3b66477d1b414e0ff66ac871c6de65ddf05cb1c97208d9c3a605ec5"), looks := false }, kinds := [], alts := [], laidByText := true, laidKinds := [.data], laidTests := true, laidLooks := .later }
def PpolySumsCardSaid : Prop := Claim7.holds Tryd.pinned (.plain (OpenSpec.ofChange ppolySumsSpec)) ppolySumsCard

/-- THE TIED CARD OF 'algebristlaw09.PpolyRight'. -/
def ppolyRightCard : Claim7 := { stood := { row := ppolyRightRow, standIns := [], harness := (true, "36bedacbe3b66477d1b414e0ff66ac871c6de65ddf05cb1c97208d9c3a605ec5"), looks := false }, kinds := [], alts := [], laidByText := true, laidKinds := [.data], laidTests := true, laidLooks := .later }
def PpolyRightCardSaid : Prop := Claim7.holds Tryd.pinned (.plain (OpenSpec.ofChange ppolyRightSpec)) ppolyRightCard

/-- THE TIED CARD OF 'algebristlaw09.PpolyPowers'. -/
def ppolyPowersCard : Claim7 := { stood := { row := ppolyPowersRow, standIns := [], harness := (true, "36bedacbe3b66477d1b414e0ff66ac871c6de65ddf05cb1c97208d9c3a605ec5"), looks := false }, kinds := [], alts := [], laidByText := true, laidKinds := [.data], laidTests := true, laidLooks := .later }
def PpolyPowersCardSaid : Prop := Claim7.holds Tryd.pinned (.plain (OpenSpec.ofChange ppolyPowersSpec)) ppolyPowersCard

/-- THE TIED CARD OF 'algebristlaw09.PpolyFrob'. -/
def ppolyFrobCard : Claim7 := { stood := { row := ppolyFrobRow, standIns := [], harness := (true, "36bedacbe3b66477d1b414e0ff66ac871c6de65ddf05cb1c97208d9c3a605ec5"), looks := false }, kinds := [], alts := [], laidByText := true, laidKinds := [.data], laidTests := true, laidLooks := .later }
def PpolyFrobCardSaid : Prop := Claim7.holds Tryd.pinned (.plain (OpenSpec.ofChange ppolyFrobSpec)) ppolyFrobCard

/-- THE TIED CARD OF 'algebristlaw09.PpolyFrom'. -/
def ppolyFromCard : Claim7 := { stood := { row := ppolyFromRow, standIns := [], harness := (true, "36bedacbe3b66477d1b414e0ff66ac871c6de65ddf05cb1c97208d9c3a605ec5"), looks := false }, kinds := [], alts := [], laidByText := true, laidKinds := [.data], laidTests := true, laidLooks := .later }
def PpolyFromCardSaid : Prop := Claim7.holds Tryd.pinned (.plain (OpenSpec.ofChange ppolyFromSpec)) ppolyFromCard

/-- THE SECOND FORM's CARD OF 'algebristlaw09.PpolyDivides'. -/
def ppolyDividesUptoCard : Claim7 := { stood := { row := ppolyDividesUptoRow, standIns := [], harness := (true, "36bedacbe3b66477d1b414e0ff66ac871c6de65ddf05cb1c97208d9c3a605ec5"), looks := false }, kinds := [], alts := [], laidByText := true, laidKinds := [.data], laidTests := true, laidLooks := .later }
def PpolyDividesUptoCardSaid : Prop := Claim7.holds Tryd.pinned (.plain (OpenSpec.upto ppolyDividesSpec)) ppolyDividesUptoCard

/-- THE SECOND FORM's CARD OF 'algebristlaw09.PpolyGcd'. -/
def ppolyGcdUptoCard : Claim7 := { stood := { row := ppolyGcdUptoRow, standIns := [], harness := (true, "36bedacbe3b66477d1b414e0ff66ac871c6de65ddf05cb1c97208d9c3a605ec5"), looks := false }, kinds := [], alts := [], laidByText := true, laidKinds := [.data], laidTests := true, laidLooks := .later }
def PpolyGcdUptoCardSaid : Prop := Claim7.holds Tryd.pinned (.plain (OpenSpec.upto ppolyGcdSpec)) ppolyGcdUptoCard

/-- THE SECOND FORM's CARD OF 'algebristlaw09.PpolyHolds'. -/
def ppolyHoldsUptoCard : Claim7 := { stood := { row := ppolyHoldsUptoRow, standIns := [], harness := (true, "36bedacbe3b66477d1b414e0ff66ac871c6de65ddf05cb1c97208d9c3a605ec5"), looks := false }, kinds := [], alts := [], laidByText := true, laidKinds := [.data], laidTests := true, laidLooks := .later }
def PpolyHoldsUptoCardSaid : Prop := Claim7.holds Tryd.pinned (.plain (OpenSpec.upto ppolyHoldsSpec)) ppolyHoldsUptoCard

/-- THE SECOND FORM's CARD OF 'algebristlaw09.PpolyRing'. -/
def ppolyRingUptoCard : Claim7 := { stood := { row := ppolyRingUptoRow, standIns := [], harness := (true, "36bedacbe3b66477d1b414e0ff66ac871c6de65ddf05cb1c97208d9c3a605ec5"), looks := false }, kinds := [], alts := [], laidByText := true, laidKinds := [.data], laidTests := true, laidLooks := .later }
def PpolyRingUptoCardSaid : Prop := Claim7.holds Tryd.pinned (.plain (OpenSpec.upto ppolyRingSpec)) ppolyRingUptoCard

/-- THE SECOND FORM's CARD OF 'algebristlaw09.PpolySums'. -/
def ppolySumsUptoCard : Claim7 := { stood := { row := ppolySumsUptoRow, standIns := [], harness := (true, "36bedacbe3b66477d1b414e0ff66ac871c6de65ddf05cb1c97208d9c3a605ec5"), looks := false }, kinds := [], alts := [], laidByText := true, laidKinds := [.data], laidTests := true, laidLooks := .later }
def PpolySumsUptoCardSaid : Prop := Claim7.holds Tryd.pinned (.plain (OpenSpec.upto ppolySumsSpec)) ppolySumsUptoCard

/-- THE SECOND FORM's CARD OF 'algebristlaw09.PpolyRight'. -/
def ppolyRightUptoCard : Claim7 := { stood := { row := ppolyRightUptoRow, standIns := [], harness := (true, "36bedacbe3b66477d1b414e0ff66ac871c6de65ddf05cb1c97208d9c3a605ec5"), looks := false }, kinds := [], alts := [], laidByText := true, laidKinds := [.data], laidTests := true, laidLooks := .later }
def PpolyRightUptoCardSaid : Prop := Claim7.holds Tryd.pinned (.plain (OpenSpec.upto ppolyRightSpec)) ppolyRightUptoCard

/-- THE SECOND FORM's CARD OF 'algebristlaw09.PpolyPowers'. -/
def ppolyPowersUptoCard : Claim7 := { stood := { row := ppolyPowersUptoRow, standIns := [], harness := (true, "36bedacbe3b66477d1b414e0ff66ac871c6de65ddf05cb1c97208d9c3a605ec5"), looks := false }, kinds := [], alts := [], laidByText := true, laidKinds := [.data], laidTests := true, laidLooks := .later }
def PpolyPowersUptoCardSaid : Prop := Claim7.holds Tryd.pinned (.plain (OpenSpec.upto ppolyPowersSpec)) ppolyPowersUptoCard

/-- THE SECOND FORM's CARD OF 'algebristlaw09.PpolyFrob'. -/
def ppolyFrobUptoCard : Claim7 := { stood := { row := ppolyFrobUptoRow, standIns := [], harness := (true, "36bedacbe3b66477d1b414e0ff66ac871c6de65ddf05cb1c97208d9c3a605ec5"), looks := false }, kinds := [], alts := [], laidByText := true, laidKinds := [.data], laidTests := true, laidLooks := .later }
def PpolyFrobUptoCardSaid : Prop := Claim7.holds Tryd.pinned (.plain (OpenSpec.upto ppolyFrobSpec)) ppolyFrobUptoCard

/-- THE SECOND FORM's CARD OF 'algebristlaw09.PpolyFrom'. -/
def ppolyFromUptoCard : Claim7 := { stood := { row := ppolyFromUptoRow, standIns := [], harness := (true, "36bedacbe3b66477d1b414e0ff66ac871c6de65ddf05cb1c97208d9c3a605ec5"), looks := false }, kinds := [], alts := [], laidByText := true, laidKinds := [.data], laidTests := true, laidLooks := .later }
def PpolyFromUptoCardSaid : Prop := Claim7.holds Tryd.pinned (.plain (OpenSpec.upto ppolyFromSpec)) ppolyFromUptoCard
end Rows
end Go.Proofs.YtcefhnmhcapccaaDoor
