/-
  NARROWER THAN 'FOR EVERY INPUT', by the rows' own cells (each row's printed sentence says how): ModpFields: laid · ModpSums: laid · ModpPowers: laid · ModpInverses: laid · ModpOrders: laid · ModpLeast: laid · ModpRoots: laid · ModpSquares: laid · ModpLaws: laid · PpolySums: laid · PpolyPowers: laid · PpolyFrom: laid.
  DERIVED. THE GIVEN ROWS OF THIS SEAT. 12 by the template 'for every input the law returns true; each argument reads behind the call as it read before'; 0 by the template 'total and deterministic' (their statements: YtbnjmeeaaieicaaDoorTotals.lean).
  GIVEN WITH THE SEED: the statements are not yours to turn. If you find one false, say at which input.
  Laid BY PROGRAM, IN A SANDBOX (cutbox-rows.mjs): the forced cells as the released guide's own fill.sh prints them over the translation b1a223674d4c247c… (all of the seat's roots in one cut). By AI agents, Wed Nov 11 2026. No macro, syntax, notation, axiom, sorry.
-/
import Derived.Test.YtbnjmeeaaieicaaDoorChecked
import GoSem.Claim
import GoSem.ClaimJoined
import GoSem.ClaimMapViews
import Derived.JoinedTies
import Derived.KernelRfl
namespace Go.Proofs.YtbnjmeeaaieicaaDoor
/- THE CELL 'sum', in the pinned program and in every row, IS THE sha256 OF THE DUMP (.gsa) THAT YtbnjmeeaaieicaaDoorProg.lean LOADS. Nothing in Lean hashes anything: it is a label: what it is worth is what the hold of that sum in a sandbox is worth. -/
noncomputable def Tryd.pinned : Pinned := { name := "ytbnjmeeaaieicaadoor", sum := "b1a223674d4c247c47fda531dcf319de27652eb45feb4a323a72413a4e05772a", checked := Tryd.checked }
namespace Rows
def none {H : Type} : Left H := { results := [], args := [] }

/- WHAT THE LISTED PACKAGE-LEVEL VARIABLES READ AS WHEN THE CALL BEGINS. Each datum BY PROGRAM (the guide's laid-datum.mjs) off the statement by which the dump's own 'gosem.cut.vars' lays the variable. In a bare row this is a premise. The card (YtbnjmeeaaieicaaDoorCards.lean) ties it to the program's text. -/
def laid_math_bits_deBruijn32tab {H : Type} : DataW H := .agg [.lit (.int .u8 0), .lit (.int .u8 1), .lit (.int .u8 28), .lit (.int .u8 2), .lit (.int .u8 29), .lit (.int .u8 14), .lit (.int .u8 24), .lit (.int .u8 3), .lit (.int .u8 30), .lit (.int .u8 22), .lit (.int .u8 20), .lit (.int .u8 15), .lit (.int .u8 25), .lit (.int .u8 17), .lit (.int .u8 4), .lit (.int .u8 8), .lit (.int .u8 31), .lit (.int .u8 27), .lit (.int .u8 13), .lit (.int .u8 23), .lit (.int .u8 21), .lit (.int .u8 19), .lit (.int .u8 16), .lit (.int .u8 7), .lit (.int .u8 26), .lit (.int .u8 12), .lit (.int .u8 18), .lit (.int .u8 6), .lit (.int .u8 11), .lit (.int .u8 5), .lit (.int .u8 10), .lit (.int .u8 9)]
def laid_math_bits_deBruijn64tab {H : Type} : DataW H := .agg [.lit (.int .u8 0), .lit (.int .u8 1), .lit (.int .u8 56), .lit (.int .u8 2), .lit (.int .u8 57), .lit (.int .u8 49), .lit (.int .u8 28), .lit (.int .u8 3), .lit (.int .u8 61), .lit (.int .u8 58), .lit (.int .u8 42), .lit (.int .u8 50), .lit (.int .u8 38), .lit (.int .u8 29), .lit (.int .u8 17), .lit (.int .u8 4), .lit (.int .u8 62), .lit (.int .u8 47), .lit (.int .u8 59), .lit (.int .u8 36), .lit (.int .u8 45), .lit (.int .u8 43), .lit (.int .u8 51), .lit (.int .u8 22), .lit (.int .u8 53), .lit (.int .u8 39), .lit (.int .u8 33), .lit (.int .u8 30), .lit (.int .u8 24), .lit (.int .u8 18), .lit (.int .u8 12), .lit (.int .u8 5), .lit (.int .u8 63), .lit (.int .u8 55), .lit (.int .u8 48), .lit (.int .u8 27), .lit (.int .u8 60), .lit (.int .u8 41), .lit (.int .u8 37), .lit (.int .u8 16), .lit (.int .u8 46), .lit (.int .u8 35), .lit (.int .u8 44), .lit (.int .u8 21), .lit (.int .u8 52), .lit (.int .u8 32), .lit (.int .u8 23), .lit (.int .u8 11), .lit (.int .u8 54), .lit (.int .u8 26), .lit (.int .u8 40), .lit (.int .u8 15), .lit (.int .u8 34), .lit (.int .u8 20), .lit (.int .u8 31), .lit (.int .u8 10), .lit (.int .u8 25), .lit (.int .u8 14), .lit (.int .u8 19), .lit (.int .u8 9), .lit (.int .u8 13), .lit (.int .u8 8), .lit (.int .u8 7), .lit (.int .u8 6)]

/-- 'algebristlaw07.ModpFields': WHATEVER THE INPUT: true; the input reads as it did. -/
def modpFieldsSpec : ChangeSpec := { name := "modpFields", fn := fun _ => fun
  | [d1, d2] => { results := [.lit (.bool true)], args := [d1, d2] }
  | _ => none }
def modpFieldsRow : OpenClaim := { program := "ytbnjmeeaaieicaadoor", sum := "b1a223674d4c247c47fda531dcf319de27652eb45feb4a323a72413a4e05772a", func := "algebrist/algebristlaw07.ModpFields", spec := "modpFields", named := ["math/bits.deBruijn64tab", "math/bits.divideError", "math/bits.overflowError", "math/bits.deBruijn32tab"], apart := false, laid := [("math/bits.deBruijn32tab", laid_math_bits_deBruijn32tab), ("math/bits.deBruijn64tab", laid_math_bits_deBruijn64tab)] }
def ModpFieldsSaid : Prop := modpFieldsRow.holds Tryd.pinned (OpenSpec.ofChange modpFieldsSpec)

/-- ITS FALSE NEIGHBOUR: 'it returns false'. Refute it at one input. -/
def modpFieldsWrong : ChangeSpec := { name := "modpFields", fn := fun _ => fun
  | [d1, d2] => { results := [.lit (.bool false)], args := [d1, d2] }
  | _ => none }
def ModpFieldsWrongFalsely : Prop := modpFieldsRow.holds Tryd.pinned (OpenSpec.ofChange modpFieldsWrong)

/-- 'algebristlaw07.ModpSums': WHATEVER THE INPUT: true; the input reads as it did. -/
def modpSumsSpec : ChangeSpec := { name := "modpSums", fn := fun _ => fun
  | [d1, d2, d3] => { results := [.lit (.bool true)], args := [d1, d2, d3] }
  | _ => none }
def modpSumsRow : OpenClaim := { program := "ytbnjmeeaaieicaadoor", sum := "b1a223674d4c247c47fda531dcf319de27652eb45feb4a323a72413a4e05772a", func := "algebrist/algebristlaw07.ModpSums", spec := "modpSums", named := ["math/bits.deBruijn32tab", "math/bits.deBruijn64tab", "math/bits.divideError", "math/bits.overflowError"], apart := false, laid := [("math/bits.deBruijn32tab", laid_math_bits_deBruijn32tab), ("math/bits.deBruijn64tab", laid_math_bits_deBruijn64tab)] }
def ModpSumsSaid : Prop := modpSumsRow.holds Tryd.pinned (OpenSpec.ofChange modpSumsSpec)

/-- ITS FALSE NEIGHBOUR: 'it returns false'. Refute it at one input. -/
def modpSumsWrong : ChangeSpec := { name := "modpSums", fn := fun _ => fun
  | [d1, d2, d3] => { results := [.lit (.bool false)], args := [d1, d2, d3] }
  | _ => none }
def ModpSumsWrongFalsely : Prop := modpSumsRow.holds Tryd.pinned (OpenSpec.ofChange modpSumsWrong)

/-- 'algebristlaw07.ModpPowers': WHATEVER THE INPUT: true; the input reads as it did. -/
def modpPowersSpec : ChangeSpec := { name := "modpPowers", fn := fun _ => fun
  | [d1, d2, d3] => { results := [.lit (.bool true)], args := [d1, d2, d3] }
  | _ => none }
def modpPowersRow : OpenClaim := { program := "ytbnjmeeaaieicaadoor", sum := "b1a223674d4c247c47fda531dcf319de27652eb45feb4a323a72413a4e05772a", func := "algebrist/algebristlaw07.ModpPowers", spec := "modpPowers", named := ["math/bits.deBruijn32tab", "math/bits.deBruijn64tab", "math/bits.divideError", "math/bits.overflowError"], apart := false, laid := [("math/bits.deBruijn32tab", laid_math_bits_deBruijn32tab), ("math/bits.deBruijn64tab", laid_math_bits_deBruijn64tab)] }
def ModpPowersSaid : Prop := modpPowersRow.holds Tryd.pinned (OpenSpec.ofChange modpPowersSpec)

/-- ITS FALSE NEIGHBOUR: 'it returns false'. Refute it at one input. -/
def modpPowersWrong : ChangeSpec := { name := "modpPowers", fn := fun _ => fun
  | [d1, d2, d3] => { results := [.lit (.bool false)], args := [d1, d2, d3] }
  | _ => none }
def ModpPowersWrongFalsely : Prop := modpPowersRow.holds Tryd.pinned (OpenSpec.ofChange modpPowersWrong)

/-- 'algebristlaw07.ModpInverses': WHATEVER THE INPUT: true; the input reads as it did. -/
def modpInversesSpec : ChangeSpec := { name := "modpInverses", fn := fun _ => fun
  | [d1, d2, d3] => { results := [.lit (.bool true)], args := [d1, d2, d3] }
  | _ => none }
def modpInversesRow : OpenClaim := { program := "ytbnjmeeaaieicaadoor", sum := "b1a223674d4c247c47fda531dcf319de27652eb45feb4a323a72413a4e05772a", func := "algebrist/algebristlaw07.ModpInverses", spec := "modpInverses", named := ["math/bits.deBruijn32tab", "math/bits.deBruijn64tab", "math/bits.divideError", "math/bits.overflowError"], apart := false, laid := [("math/bits.deBruijn32tab", laid_math_bits_deBruijn32tab), ("math/bits.deBruijn64tab", laid_math_bits_deBruijn64tab)] }
def ModpInversesSaid : Prop := modpInversesRow.holds Tryd.pinned (OpenSpec.ofChange modpInversesSpec)

/-- ITS FALSE NEIGHBOUR: 'it returns false'. Refute it at one input. -/
def modpInversesWrong : ChangeSpec := { name := "modpInverses", fn := fun _ => fun
  | [d1, d2, d3] => { results := [.lit (.bool false)], args := [d1, d2, d3] }
  | _ => none }
def ModpInversesWrongFalsely : Prop := modpInversesRow.holds Tryd.pinned (OpenSpec.ofChange modpInversesWrong)

/-- 'algebristlaw07.ModpOrders': WHATEVER THE INPUT: true; the input reads as it did. -/
def modpOrdersSpec : ChangeSpec := { name := "modpOrders", fn := fun _ => fun
  | [d1, d2] => { results := [.lit (.bool true)], args := [d1, d2] }
  | _ => none }
def modpOrdersRow : OpenClaim := { program := "ytbnjmeeaaieicaadoor", sum := "b1a223674d4c247c47fda531dcf319de27652eb45feb4a323a72413a4e05772a", func := "algebrist/algebristlaw07.ModpOrders", spec := "modpOrders", named := ["math/bits.deBruijn32tab", "math/bits.deBruijn64tab", "math/bits.divideError", "math/bits.overflowError"], apart := false, laid := [("math/bits.deBruijn32tab", laid_math_bits_deBruijn32tab), ("math/bits.deBruijn64tab", laid_math_bits_deBruijn64tab)] }
def ModpOrdersSaid : Prop := modpOrdersRow.holds Tryd.pinned (OpenSpec.ofChange modpOrdersSpec)

/-- ITS FALSE NEIGHBOUR: 'it returns false'. Refute it at one input. -/
def modpOrdersWrong : ChangeSpec := { name := "modpOrders", fn := fun _ => fun
  | [d1, d2] => { results := [.lit (.bool false)], args := [d1, d2] }
  | _ => none }
def ModpOrdersWrongFalsely : Prop := modpOrdersRow.holds Tryd.pinned (OpenSpec.ofChange modpOrdersWrong)

/-- 'algebristlaw07.ModpLeast': WHATEVER THE INPUT: true; the input reads as it did. -/
def modpLeastSpec : ChangeSpec := { name := "modpLeast", fn := fun _ => fun
  | [d1, d2] => { results := [.lit (.bool true)], args := [d1, d2] }
  | _ => none }
def modpLeastRow : OpenClaim := { program := "ytbnjmeeaaieicaadoor", sum := "b1a223674d4c247c47fda531dcf319de27652eb45feb4a323a72413a4e05772a", func := "algebrist/algebristlaw07.ModpLeast", spec := "modpLeast", named := ["math/bits.deBruijn32tab", "math/bits.deBruijn64tab", "math/bits.divideError", "math/bits.overflowError"], apart := false, laid := [("math/bits.deBruijn32tab", laid_math_bits_deBruijn32tab), ("math/bits.deBruijn64tab", laid_math_bits_deBruijn64tab)] }
def ModpLeastSaid : Prop := modpLeastRow.holds Tryd.pinned (OpenSpec.ofChange modpLeastSpec)

/-- ITS FALSE NEIGHBOUR: 'it returns false'. Refute it at one input. -/
def modpLeastWrong : ChangeSpec := { name := "modpLeast", fn := fun _ => fun
  | [d1, d2] => { results := [.lit (.bool false)], args := [d1, d2] }
  | _ => none }
def ModpLeastWrongFalsely : Prop := modpLeastRow.holds Tryd.pinned (OpenSpec.ofChange modpLeastWrong)

/-- 'algebristlaw07.ModpRoots': WHATEVER THE INPUT: true; the input reads as it did. -/
def modpRootsSpec : ChangeSpec := { name := "modpRoots", fn := fun _ => fun
  | [d1, d2] => { results := [.lit (.bool true)], args := [d1, d2] }
  | _ => none }
def modpRootsRow : OpenClaim := { program := "ytbnjmeeaaieicaadoor", sum := "b1a223674d4c247c47fda531dcf319de27652eb45feb4a323a72413a4e05772a", func := "algebrist/algebristlaw07.ModpRoots", spec := "modpRoots", named := ["math/bits.deBruijn32tab", "math/bits.deBruijn64tab", "math/bits.divideError", "math/bits.overflowError"], apart := false, laid := [("math/bits.deBruijn32tab", laid_math_bits_deBruijn32tab), ("math/bits.deBruijn64tab", laid_math_bits_deBruijn64tab)] }
def ModpRootsSaid : Prop := modpRootsRow.holds Tryd.pinned (OpenSpec.ofChange modpRootsSpec)

/-- ITS FALSE NEIGHBOUR: 'it returns false'. Refute it at one input. -/
def modpRootsWrong : ChangeSpec := { name := "modpRoots", fn := fun _ => fun
  | [d1, d2] => { results := [.lit (.bool false)], args := [d1, d2] }
  | _ => none }
def ModpRootsWrongFalsely : Prop := modpRootsRow.holds Tryd.pinned (OpenSpec.ofChange modpRootsWrong)

/-- 'algebristlaw07.ModpSquares': WHATEVER THE INPUT: true; the input reads as it did. -/
def modpSquaresSpec : ChangeSpec := { name := "modpSquares", fn := fun _ => fun
  | [d1, d2] => { results := [.lit (.bool true)], args := [d1, d2] }
  | _ => none }
def modpSquaresRow : OpenClaim := { program := "ytbnjmeeaaieicaadoor", sum := "b1a223674d4c247c47fda531dcf319de27652eb45feb4a323a72413a4e05772a", func := "algebrist/algebristlaw07.ModpSquares", spec := "modpSquares", named := ["math/bits.deBruijn32tab", "math/bits.deBruijn64tab", "math/bits.divideError", "math/bits.overflowError"], apart := false, laid := [("math/bits.deBruijn32tab", laid_math_bits_deBruijn32tab), ("math/bits.deBruijn64tab", laid_math_bits_deBruijn64tab)] }
def ModpSquaresSaid : Prop := modpSquaresRow.holds Tryd.pinned (OpenSpec.ofChange modpSquaresSpec)

/-- ITS FALSE NEIGHBOUR: 'it returns false'. Refute it at one input. -/
def modpSquaresWrong : ChangeSpec := { name := "modpSquares", fn := fun _ => fun
  | [d1, d2] => { results := [.lit (.bool false)], args := [d1, d2] }
  | _ => none }
def ModpSquaresWrongFalsely : Prop := modpSquaresRow.holds Tryd.pinned (OpenSpec.ofChange modpSquaresWrong)

/-- 'algebristlaw07.ModpLaws': WHATEVER THE INPUT: true; the input reads as it did. -/
def modpLawsSpec : ChangeSpec := { name := "modpLaws", fn := fun _ => fun
  | [d1, d2] => { results := [.lit (.bool true)], args := [d1, d2] }
  | _ => none }
def modpLawsRow : OpenClaim := { program := "ytbnjmeeaaieicaadoor", sum := "b1a223674d4c247c47fda531dcf319de27652eb45feb4a323a72413a4e05772a", func := "algebrist/algebristlaw07.ModpLaws", spec := "modpLaws", named := ["math/bits.deBruijn32tab", "math/bits.deBruijn64tab", "math/bits.divideError", "math/bits.overflowError"], apart := false, laid := [("math/bits.deBruijn32tab", laid_math_bits_deBruijn32tab), ("math/bits.deBruijn64tab", laid_math_bits_deBruijn64tab)] }
def ModpLawsSaid : Prop := modpLawsRow.holds Tryd.pinned (OpenSpec.ofChange modpLawsSpec)

/-- ITS FALSE NEIGHBOUR: 'it returns false'. Refute it at one input. -/
def modpLawsWrong : ChangeSpec := { name := "modpLaws", fn := fun _ => fun
  | [d1, d2] => { results := [.lit (.bool false)], args := [d1, d2] }
  | _ => none }
def ModpLawsWrongFalsely : Prop := modpLawsRow.holds Tryd.pinned (OpenSpec.ofChange modpLawsWrong)

/-- 'algebristlaw09.PpolySums': WHATEVER THE INPUT: true; the input reads as it did. -/
def ppolySumsSpec : ChangeSpec := { name := "ppolySums", fn := fun _ => fun
  | [d1, d2, d3] => { results := [.lit (.bool true)], args := [d1, d2, d3] }
  | _ => none }
def ppolySumsRow : OpenClaim := { program := "ytbnjmeeaaieicaadoor", sum := "b1a223674d4c247c47fda531dcf319de27652eb45feb4a323a72413a4e05772a", func := "algebrist/algebristlaw09.PpolySums", spec := "ppolySums", unfollowed := true, recurses := true, named := ["math/bits.deBruijn64tab", "math/bits.divideError", "math/bits.overflowError"], apart := false, laid := [("math/bits.deBruijn64tab", laid_math_bits_deBruijn64tab)] }
def PpolySumsSaid : Prop := ppolySumsRow.holds Tryd.pinned (OpenSpec.ofChange ppolySumsSpec)

/-- ITS FALSE NEIGHBOUR: 'it returns false'. Refute it at one input. -/
def ppolySumsWrong : ChangeSpec := { name := "ppolySums", fn := fun _ => fun
  | [d1, d2, d3] => { results := [.lit (.bool false)], args := [d1, d2, d3] }
  | _ => none }
def PpolySumsWrongFalsely : Prop := ppolySumsRow.holds Tryd.pinned (OpenSpec.ofChange ppolySumsWrong)

/-- 'algebristlaw09.PpolyPowers': WHATEVER THE INPUT: true; the input reads as it did. -/
def ppolyPowersSpec : ChangeSpec := { name := "ppolyPowers", fn := fun _ => fun
  | [d1, d2, d3, d4] => { results := [.lit (.bool true)], args := [d1, d2, d3, d4] }
  | _ => none }
def ppolyPowersRow : OpenClaim := { program := "ytbnjmeeaaieicaadoor", sum := "b1a223674d4c247c47fda531dcf319de27652eb45feb4a323a72413a4e05772a", func := "algebrist/algebristlaw09.PpolyPowers", spec := "ppolyPowers", unfollowed := true, recurses := true, named := ["math/bits.deBruijn64tab", "math/bits.divideError", "math/bits.overflowError"], apart := false, laid := [("math/bits.deBruijn64tab", laid_math_bits_deBruijn64tab)] }
def PpolyPowersSaid : Prop := ppolyPowersRow.holds Tryd.pinned (OpenSpec.ofChange ppolyPowersSpec)

/-- ITS FALSE NEIGHBOUR: 'it returns false'. Refute it at one input. -/
def ppolyPowersWrong : ChangeSpec := { name := "ppolyPowers", fn := fun _ => fun
  | [d1, d2, d3, d4] => { results := [.lit (.bool false)], args := [d1, d2, d3, d4] }
  | _ => none }
def PpolyPowersWrongFalsely : Prop := ppolyPowersRow.holds Tryd.pinned (OpenSpec.ofChange ppolyPowersWrong)

/-- 'algebristlaw09.PpolyFrom': WHATEVER THE INPUT: true; the input reads as it did. -/
def ppolyFromSpec : ChangeSpec := { name := "ppolyFrom", fn := fun _ => fun
  | [d1, d2, d3] => { results := [.lit (.bool true)], args := [d1, d2, d3] }
  | _ => none }
def ppolyFromRow : OpenClaim := { program := "ytbnjmeeaaieicaadoor", sum := "b1a223674d4c247c47fda531dcf319de27652eb45feb4a323a72413a4e05772a", func := "algebrist/algebristlaw09.PpolyFrom", spec := "ppolyFrom", unfollowed := true, recurses := true, named := ["math/bits.deBruijn64tab", "math/bits.divideError", "math/bits.overflowError"], apart := false, laid := [("math/bits.deBruijn64tab", laid_math_bits_deBruijn64tab)] }
def PpolyFromSaid : Prop := ppolyFromRow.holds Tryd.pinned (OpenSpec.ofChange ppolyFromSpec)

/-- ITS FALSE NEIGHBOUR: 'it returns false'. Refute it at one input. -/
def ppolyFromWrong : ChangeSpec := { name := "ppolyFrom", fn := fun _ => fun
  | [d1, d2, d3] => { results := [.lit (.bool false)], args := [d1, d2, d3] }
  | _ => none }
def PpolyFromWrongFalsely : Prop := ppolyFromRow.holds Tryd.pinned (OpenSpec.ofChange ppolyFromWrong)

/- THE SECOND FORM. 'bulk': how many values and letters a reading holds, each counted each time it is reached (what is shared counts as often as it is met; a slice's spare places count too). A statement '..UptoSaid' is the law's where the arguments, and the package variables that the reading takes, are together of bulk at most 1048576: NARROWER than '..Said'. Prove '..Said' where nothing that the law and all that it calls make is longer than what came in: it says more and counts as full. Else prove '..UptoSaid'. A law counts once. -/
mutual
def uptoBulk {H : Type} : DataW H → Nat
  | .lit (.string bytes) => bytes.length + 1
  | .lit _ => 1
  | .nil => 1
  | .ptr d => uptoBulk d + 1
  | .slice elems spare => uptoBulkAll elems + uptoBulkAll spare + 1
  | .agg parts => uptoBulkAll parts + 1
  | .iface _ d => uptoBulk d + 1
  | .map entries => uptoBulkEntries entries + 1
  | .held _ => 1
def uptoBulkAll {H : Type} : List (DataW H) → Nat
  | [] => 0
  | d :: r => uptoBulk d + uptoBulkAll r
def uptoBulkEntries {H : Type} : List (Lit × DataW H) → Nat
  | [] => 0
  | x :: r => uptoBulkEntry x + uptoBulkEntries r
def uptoBulkEntry {H : Type} : Lit × DataW H → Nat
  | (.string bytes, d) => bytes.length + uptoBulk d + 1
  | (_, d) => uptoBulk d + 1
 end
def uptoSmall : (H : Type) → List (DataW H) → Bool := fun _ ds => decide (uptoBulkAll ds ≤ 1048576)
def OpenSpec.upto (s : _root_.Go.ChangeSpec) : _root_.Go.OpenSpec := { _root_.Go.OpenSpec.ofChange s with cond := some uptoSmall }

/-- 'algebristlaw07.ModpFields', WHERE WHAT IT READS IS OF BULK AT MOST 1048576: true; the input reads as it did. -/
def modpFieldsUptoRow : OpenClaim := { program := "ytbnjmeeaaieicaadoor", sum := "b1a223674d4c247c47fda531dcf319de27652eb45feb4a323a72413a4e05772a", func := "algebrist/algebristlaw07.ModpFields", spec := "modpFields", named := ["math/bits.deBruijn64tab", "math/bits.divideError", "math/bits.overflowError", "math/bits.deBruijn32tab"], apart := false, laid := [("math/bits.deBruijn32tab", laid_math_bits_deBruijn32tab), ("math/bits.deBruijn64tab", laid_math_bits_deBruijn64tab)], narrowed := true }
def ModpFieldsUptoSaid : Prop := modpFieldsUptoRow.holds Tryd.pinned (OpenSpec.upto modpFieldsSpec)

/-- 'algebristlaw07.ModpSums', WHERE WHAT IT READS IS OF BULK AT MOST 1048576: true; the input reads as it did. -/
def modpSumsUptoRow : OpenClaim := { program := "ytbnjmeeaaieicaadoor", sum := "b1a223674d4c247c47fda531dcf319de27652eb45feb4a323a72413a4e05772a", func := "algebrist/algebristlaw07.ModpSums", spec := "modpSums", named := ["math/bits.deBruijn32tab", "math/bits.deBruijn64tab", "math/bits.divideError", "math/bits.overflowError"], apart := false, laid := [("math/bits.deBruijn32tab", laid_math_bits_deBruijn32tab), ("math/bits.deBruijn64tab", laid_math_bits_deBruijn64tab)], narrowed := true }
def ModpSumsUptoSaid : Prop := modpSumsUptoRow.holds Tryd.pinned (OpenSpec.upto modpSumsSpec)

/-- 'algebristlaw07.ModpPowers', WHERE WHAT IT READS IS OF BULK AT MOST 1048576: true; the input reads as it did. -/
def modpPowersUptoRow : OpenClaim := { program := "ytbnjmeeaaieicaadoor", sum := "b1a223674d4c247c47fda531dcf319de27652eb45feb4a323a72413a4e05772a", func := "algebrist/algebristlaw07.ModpPowers", spec := "modpPowers", named := ["math/bits.deBruijn32tab", "math/bits.deBruijn64tab", "math/bits.divideError", "math/bits.overflowError"], apart := false, laid := [("math/bits.deBruijn32tab", laid_math_bits_deBruijn32tab), ("math/bits.deBruijn64tab", laid_math_bits_deBruijn64tab)], narrowed := true }
def ModpPowersUptoSaid : Prop := modpPowersUptoRow.holds Tryd.pinned (OpenSpec.upto modpPowersSpec)

/-- 'algebristlaw07.ModpInverses', WHERE WHAT IT READS IS OF BULK AT MOST 1048576: true; the input reads as it did. -/
def modpInversesUptoRow : OpenClaim := { program := "ytbnjmeeaaieicaadoor", sum := "b1a223674d4c247c47fda531dcf319de27652eb45feb4a323a72413a4e05772a", func := "algebrist/algebristlaw07.ModpInverses", spec := "modpInverses", named := ["math/bits.deBruijn32tab", "math/bits.deBruijn64tab", "math/bits.divideError", "math/bits.overflowError"], apart := false, laid := [("math/bits.deBruijn32tab", laid_math_bits_deBruijn32tab), ("math/bits.deBruijn64tab", laid_math_bits_deBruijn64tab)], narrowed := true }
def ModpInversesUptoSaid : Prop := modpInversesUptoRow.holds Tryd.pinned (OpenSpec.upto modpInversesSpec)

/-- 'algebristlaw07.ModpOrders', WHERE WHAT IT READS IS OF BULK AT MOST 1048576: true; the input reads as it did. -/
def modpOrdersUptoRow : OpenClaim := { program := "ytbnjmeeaaieicaadoor", sum := "b1a223674d4c247c47fda531dcf319de27652eb45feb4a323a72413a4e05772a", func := "algebrist/algebristlaw07.ModpOrders", spec := "modpOrders", named := ["math/bits.deBruijn32tab", "math/bits.deBruijn64tab", "math/bits.divideError", "math/bits.overflowError"], apart := false, laid := [("math/bits.deBruijn32tab", laid_math_bits_deBruijn32tab), ("math/bits.deBruijn64tab", laid_math_bits_deBruijn64tab)], narrowed := true }
def ModpOrdersUptoSaid : Prop := modpOrdersUptoRow.holds Tryd.pinned (OpenSpec.upto modpOrdersSpec)

/-- 'algebristlaw07.ModpLeast', WHERE WHAT IT READS IS OF BULK AT MOST 1048576: true; the input reads as it did. -/
def modpLeastUptoRow : OpenClaim := { program := "ytbnjmeeaaieicaadoor", sum := "b1a223674d4c247c47fda531dcf319de27652eb45feb4a323a72413a4e05772a", func := "algebrist/algebristlaw07.ModpLeast", spec := "modpLeast", named := ["math/bits.deBruijn32tab", "math/bits.deBruijn64tab", "math/bits.divideError", "math/bits.overflowError"], apart := false, laid := [("math/bits.deBruijn32tab", laid_math_bits_deBruijn32tab), ("math/bits.deBruijn64tab", laid_math_bits_deBruijn64tab)], narrowed := true }
def ModpLeastUptoSaid : Prop := modpLeastUptoRow.holds Tryd.pinned (OpenSpec.upto modpLeastSpec)

/-- 'algebristlaw07.ModpRoots', WHERE WHAT IT READS IS OF BULK AT MOST 1048576: true; the input reads as it did. -/
def modpRootsUptoRow : OpenClaim := { program := "ytbnjmeeaaieicaadoor", sum := "b1a223674d4c247c47fda531dcf319de27652eb45feb4a323a72413a4e05772a", func := "algebrist/algebristlaw07.ModpRoots", spec := "modpRoots", named := ["math/bits.deBruijn32tab", "math/bits.deBruijn64tab", "math/bits.divideError", "math/bits.overflowError"], apart := false, laid := [("math/bits.deBruijn32tab", laid_math_bits_deBruijn32tab), ("math/bits.deBruijn64tab", laid_math_bits_deBruijn64tab)], narrowed := true }
def ModpRootsUptoSaid : Prop := modpRootsUptoRow.holds Tryd.pinned (OpenSpec.upto modpRootsSpec)

/-- 'algebristlaw07.ModpSquares', WHERE WHAT IT READS IS OF BULK AT MOST 1048576: true; the input reads as it did. -/
def modpSquaresUptoRow : OpenClaim := { program := "ytbnjmeeaaieicaadoor", sum := "b1a223674d4c247c47fda531dcf319de27652eb45feb4a323a72413a4e05772a", func := "algebrist/algebristlaw07.ModpSquares", spec := "modpSquares", named := ["math/bits.deBruijn32tab", "math/bits.deBruijn64tab", "math/bits.divideError", "math/bits.overflowError"], apart := false, laid := [("math/bits.deBruijn32tab", laid_math_bits_deBruijn32tab), ("math/bits.deBruijn64tab", laid_math_bits_deBruijn64tab)], narrowed := true }
def ModpSquaresUptoSaid : Prop := modpSquaresUptoRow.holds Tryd.pinned (OpenSpec.upto modpSquaresSpec)

/-- 'algebristlaw07.ModpLaws', WHERE WHAT IT READS IS OF BULK AT MOST 1048576: true; the input reads as it did. -/
def modpLawsUptoRow : OpenClaim := { program := "ytbnjmeeaaieicaadoor", sum := "b1a223674d4c247c47fda531dcf319de27652eb45feb4a323a72413a4e05772a", func := "algebrist/algebristlaw07.ModpLaws", spec := "modpLaws", named := ["math/bits.deBruijn32tab", "math/bits.deBruijn64tab", "math/bits.divideError", "math/bits.overflowError"], apart := false, laid := [("math/bits.deBruijn32tab", laid_math_bits_deBruijn32tab), ("math/bits.deBruijn64tab", laid_math_bits_deBruijn64tab)], narrowed := true }
def ModpLawsUptoSaid : Prop := modpLawsUptoRow.holds Tryd.pinned (OpenSpec.upto modpLawsSpec)

/-- 'algebristlaw09.PpolySums', WHERE WHAT IT READS IS OF BULK AT MOST 1048576: true; the input reads as it did. -/
def ppolySumsUptoRow : OpenClaim := { program := "ytbnjmeeaaieicaadoor", sum := "b1a223674d4c247c47fda531dcf319de27652eb45feb4a323a72413a4e05772a", func := "algebrist/algebristlaw09.PpolySums", spec := "ppolySums", unfollowed := true, recurses := true, named := ["math/bits.deBruijn64tab", "math/bits.divideError", "math/bits.overflowError"], apart := false, laid := [("math/bits.deBruijn64tab", laid_math_bits_deBruijn64tab)], narrowed := true }
def PpolySumsUptoSaid : Prop := ppolySumsUptoRow.holds Tryd.pinned (OpenSpec.upto ppolySumsSpec)

/-- 'algebristlaw09.PpolyPowers', WHERE WHAT IT READS IS OF BULK AT MOST 1048576: true; the input reads as it did. -/
def ppolyPowersUptoRow : OpenClaim := { program := "ytbnjmeeaaieicaadoor", sum := "b1a223674d4c247c47fda531dcf319de27652eb45feb4a323a72413a4e05772a", func := "algebrist/algebristlaw09.PpolyPowers", spec := "ppolyPowers", unfollowed := true, recurses := true, named := ["math/bits.deBruijn64tab", "math/bits.divideError", "math/bits.overflowError"], apart := false, laid := [("math/bits.deBruijn64tab", laid_math_bits_deBruijn64tab)], narrowed := true }
def PpolyPowersUptoSaid : Prop := ppolyPowersUptoRow.holds Tryd.pinned (OpenSpec.upto ppolyPowersSpec)

/-- 'algebristlaw09.PpolyFrom', WHERE WHAT IT READS IS OF BULK AT MOST 1048576: true; the input reads as it did. -/
def ppolyFromUptoRow : OpenClaim := { program := "ytbnjmeeaaieicaadoor", sum := "b1a223674d4c247c47fda531dcf319de27652eb45feb4a323a72413a4e05772a", func := "algebrist/algebristlaw09.PpolyFrom", spec := "ppolyFrom", unfollowed := true, recurses := true, named := ["math/bits.deBruijn64tab", "math/bits.divideError", "math/bits.overflowError"], apart := false, laid := [("math/bits.deBruijn64tab", laid_math_bits_deBruijn64tab)], narrowed := true }
def PpolyFromUptoSaid : Prop := ppolyFromUptoRow.holds Tryd.pinned (OpenSpec.upto ppolyFromSpec)

end Rows
end Go.Proofs.YtbnjmeeaaieicaaDoor
