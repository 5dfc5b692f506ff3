/-
  NARROWER THAN 'FOR EVERY INPUT', by the rows' own cells (each row's printed sentence says how): PpolyDivides: laid · PpolyGcd: laid · PpolyHolds: laid · PpolyRing: laid · PpolySums: laid · PpolyRight: laid · PpolyPowers: laid · PpolyFrob: laid · PpolyFrom: laid.
  DERIVED. THE GIVEN ROWS OF THIS SEAT. 9 by the template 'for every input the law returns true; each argument reads behind the call as it read before'; 0 by the template 'total and deterministic' (their statements: YtcefhnmhcapccaaDoorTotals.lean).
  GIVEN WITH THE SEED: the statements are not yours to turn. If you find one false, say at which input.
  Laid BY PROGRAM, IN A SANDBOX (cutbox-rows.mjs): the forced cells as the released guide's own fill.sh prints them over the translation ec8582c6ca3151fa… (all of the seat's roots in one cut). By AI agents, Wed Nov 11 2026. No macro, syntax, notation, axiom, sorry.
-/
import Derived.Test.YtcefhnmhcapccaaDoorChecked
import GoSem.Claim
import GoSem.ClaimJoined
import GoSem.ClaimMapViews
import Derived.JoinedTies
import Derived.KernelRfl
namespace Go.Proofs.YtcefhnmhcapccaaDoor
/- THE CELL 'sum', in the pinned program and in every row, IS THE sha256 OF THE DUMP (.gsa) THAT YtcefhnmhcapccaaDoorProg.lean LOADS. Nothing in Lean hashes anything: it is a label: what it is worth is what the hold of that sum in a sandbox is worth. -/
noncomputable def Tryd.pinned : Pinned := { name := "ytcefhnmhcapccaadoor", sum := "ec8582c6ca3151fa2d0e5a001e11f2804096efbc1fa7c897781468b15474c8dc", checked := Tryd.checked }
namespace Rows
def none {H : Type} : Left H := { results := [], args := [] }

/- WHAT THE LISTED PACKAGE-LEVEL VARIABLES READ AS WHEN THE CALL BEGINS. Each datum BY PROGRAM (the guide's laid-datum.mjs) off the statement by which the dump's own 'gosem.cut.vars' lays the variable. In a bare row this is a premise. The card (YtcefhnmhcapccaaDoorCards.lean) ties it to the program's text. -/
def laid_math_bits_deBruijn64tab {H : Type} : DataW H := .agg [.lit (.int .u8 0), .lit (.int .u8 1), .lit (.int .u8 56), .lit (.int .u8 2), .lit (.int .u8 57), .lit (.int .u8 49), .lit (.int .u8 28), .lit (.int .u8 3), .lit (.int .u8 61), .lit (.int .u8 58), .lit (.int .u8 42), .lit (.int .u8 50), .lit (.int .u8 38), .lit (.int .u8 29), .lit (.int .u8 17), .lit (.int .u8 4), .lit (.int .u8 62), .lit (.int .u8 47), .lit (.int .u8 59), .lit (.int .u8 36), .lit (.int .u8 45), .lit (.int .u8 43), .lit (.int .u8 51), .lit (.int .u8 22), .lit (.int .u8 53), .lit (.int .u8 39), .lit (.int .u8 33), .lit (.int .u8 30), .lit (.int .u8 24), .lit (.int .u8 18), .lit (.int .u8 12), .lit (.int .u8 5), .lit (.int .u8 63), .lit (.int .u8 55), .lit (.int .u8 48), .lit (.int .u8 27), .lit (.int .u8 60), .lit (.int .u8 41), .lit (.int .u8 37), .lit (.int .u8 16), .lit (.int .u8 46), .lit (.int .u8 35), .lit (.int .u8 44), .lit (.int .u8 21), .lit (.int .u8 52), .lit (.int .u8 32), .lit (.int .u8 23), .lit (.int .u8 11), .lit (.int .u8 54), .lit (.int .u8 26), .lit (.int .u8 40), .lit (.int .u8 15), .lit (.int .u8 34), .lit (.int .u8 20), .lit (.int .u8 31), .lit (.int .u8 10), .lit (.int .u8 25), .lit (.int .u8 14), .lit (.int .u8 19), .lit (.int .u8 9), .lit (.int .u8 13), .lit (.int .u8 8), .lit (.int .u8 7), .lit (.int .u8 6)]

/-- 'algebristlaw09.PpolyDivides': WHATEVER THE INPUT: true; the input reads as it did. -/
def ppolyDividesSpec : ChangeSpec := { name := "ppolyDivides", fn := fun _ => fun
  | [d1, d2] => { results := [.lit (.bool true)], args := [d1, d2] }
  | _ => none }
def ppolyDividesRow : OpenClaim := { program := "ytcefhnmhcapccaadoor", sum := "ec8582c6ca3151fa2d0e5a001e11f2804096efbc1fa7c897781468b15474c8dc", func := "algebrist/algebristlaw09.PpolyDivides", spec := "ppolyDivides", unfollowed := true, recurses := true, named := ["math/bits.deBruijn64tab", "math/bits.divideError", "math/bits.overflowError"], apart := false, laid := [("math/bits.deBruijn64tab", laid_math_bits_deBruijn64tab)] }
def PpolyDividesSaid : Prop := ppolyDividesRow.holds Tryd.pinned (OpenSpec.ofChange ppolyDividesSpec)

/-- ITS FALSE NEIGHBOUR: 'it returns false'. Refute it at one input. -/
def ppolyDividesWrong : ChangeSpec := { name := "ppolyDivides", fn := fun _ => fun
  | [d1, d2] => { results := [.lit (.bool false)], args := [d1, d2] }
  | _ => none }
def PpolyDividesWrongFalsely : Prop := ppolyDividesRow.holds Tryd.pinned (OpenSpec.ofChange ppolyDividesWrong)

/-- 'algebristlaw09.PpolyGcd': WHATEVER THE INPUT: true; the input reads as it did. -/
def ppolyGcdSpec : ChangeSpec := { name := "ppolyGcd", fn := fun _ => fun
  | [d1, d2, d3] => { results := [.lit (.bool true)], args := [d1, d2, d3] }
  | _ => none }
def ppolyGcdRow : OpenClaim := { program := "ytcefhnmhcapccaadoor", sum := "ec8582c6ca3151fa2d0e5a001e11f2804096efbc1fa7c897781468b15474c8dc", func := "algebrist/algebristlaw09.PpolyGcd", spec := "ppolyGcd", unfollowed := true, recurses := true, named := ["math/bits.deBruijn64tab", "math/bits.divideError", "math/bits.overflowError"], apart := false, laid := [("math/bits.deBruijn64tab", laid_math_bits_deBruijn64tab)] }
def PpolyGcdSaid : Prop := ppolyGcdRow.holds Tryd.pinned (OpenSpec.ofChange ppolyGcdSpec)

/-- ITS FALSE NEIGHBOUR: 'it returns false'. Refute it at one input. -/
def ppolyGcdWrong : ChangeSpec := { name := "ppolyGcd", fn := fun _ => fun
  | [d1, d2, d3] => { results := [.lit (.bool false)], args := [d1, d2, d3] }
  | _ => none }
def PpolyGcdWrongFalsely : Prop := ppolyGcdRow.holds Tryd.pinned (OpenSpec.ofChange ppolyGcdWrong)

/-- 'algebristlaw09.PpolyHolds': WHATEVER THE INPUT: true; the input reads as it did. -/
def ppolyHoldsSpec : ChangeSpec := { name := "ppolyHolds", fn := fun _ => fun
  | [d1, d2, d3] => { results := [.lit (.bool true)], args := [d1, d2, d3] }
  | _ => none }
def ppolyHoldsRow : OpenClaim := { program := "ytcefhnmhcapccaadoor", sum := "ec8582c6ca3151fa2d0e5a001e11f2804096efbc1fa7c897781468b15474c8dc", func := "algebrist/algebristlaw09.PpolyHolds", spec := "ppolyHolds", unfollowed := true, recurses := true, named := ["math/bits.deBruijn64tab", "math/bits.divideError", "math/bits.overflowError"], apart := false, laid := [("math/bits.deBruijn64tab", laid_math_bits_deBruijn64tab)] }
def PpolyHoldsSaid : Prop := ppolyHoldsRow.holds Tryd.pinned (OpenSpec.ofChange ppolyHoldsSpec)

/-- ITS FALSE NEIGHBOUR: 'it returns false'. Refute it at one input. -/
def ppolyHoldsWrong : ChangeSpec := { name := "ppolyHolds", fn := fun _ => fun
  | [d1, d2, d3] => { results := [.lit (.bool false)], args := [d1, d2, d3] }
  | _ => none }
def PpolyHoldsWrongFalsely : Prop := ppolyHoldsRow.holds Tryd.pinned (OpenSpec.ofChange ppolyHoldsWrong)

/-- 'algebristlaw09.PpolyRing': WHATEVER THE INPUT: true; the input reads as it did. -/
def ppolyRingSpec : ChangeSpec := { name := "ppolyRing", fn := fun _ => fun
  | [d1, d2, d3, d4] => { results := [.lit (.bool true)], args := [d1, d2, d3, d4] }
  | _ => none }
def ppolyRingRow : OpenClaim := { program := "ytcefhnmhcapccaadoor", sum := "ec8582c6ca3151fa2d0e5a001e11f2804096efbc1fa7c897781468b15474c8dc", func := "algebrist/algebristlaw09.PpolyRing", spec := "ppolyRing", unfollowed := true, recurses := true, named := ["math/bits.deBruijn64tab", "math/bits.divideError", "math/bits.overflowError"], apart := false, laid := [("math/bits.deBruijn64tab", laid_math_bits_deBruijn64tab)] }
def PpolyRingSaid : Prop := ppolyRingRow.holds Tryd.pinned (OpenSpec.ofChange ppolyRingSpec)

/-- ITS FALSE NEIGHBOUR: 'it returns false'. Refute it at one input. -/
def ppolyRingWrong : ChangeSpec := { name := "ppolyRing", fn := fun _ => fun
  | [d1, d2, d3, d4] => { results := [.lit (.bool false)], args := [d1, d2, d3, d4] }
  | _ => none }
def PpolyRingWrongFalsely : Prop := ppolyRingRow.holds Tryd.pinned (OpenSpec.ofChange ppolyRingWrong)

/-- 'algebristlaw09.PpolySums': WHATEVER THE INPUT: true; the input reads as it did. -/
def ppolySumsSpec : ChangeSpec := { name := "ppolySums", fn := fun _ => fun
  | [d1, d2, d3] => { results := [.lit (.bool true)], args := [d1, d2, d3] }
  | _ => none }
def ppolySumsRow : OpenClaim := { program := "ytcefhnmhcapccaadoor", sum := "ec8582c6ca3151fa2d0e5a001e11f2804096efbc1fa7c897781468b15474c8dc", func := "algebrist/algebristlaw09.PpolySums", spec := "ppolySums", unfollowed := true, recurses := true, named := ["math/bits.deBruijn64tab", "math/bits.divideError", "math/bits.overflowError"], apart := false, laid := [("math/bits.deBruijn64tab", laid_math_bits_deBruijn64tab)] }
def PpolySumsSaid : Prop := ppolySumsRow.holds Tryd.pinned (OpenSpec.ofChange ppolySumsSpec)

/-- ITS FALSE NEIGHBOUR: 'it returns false'. Refute it at one input. -/
def ppolySumsWrong : ChangeSpec := { name := "ppolySums", fn := fun _ => fun
  | [d1, d2, d3] => { results := [.lit (.bool false)], args := [d1, d2, d3] }
  | _ => none }
def PpolySumsWrongFalsely : Prop := ppolySumsRow.holds Tryd.pinned (OpenSpec.ofChange ppolySumsWrong)

/-- 'algebristlaw09.PpolyRight': WHATEVER THE INPUT: true; the input reads as it did. -/
def ppolyRightSpec : ChangeSpec := { name := "ppolyRight", fn := fun _ => fun
  | [d1, d2] => { results := [.lit (.bool true)], args := [d1, d2] }
  | _ => none }
def ppolyRightRow : OpenClaim := { program := "ytcefhnmhcapccaadoor", sum := "ec8582c6ca3151fa2d0e5a001e11f2804096efbc1fa7c897781468b15474c8dc", func := "algebrist/algebristlaw09.PpolyRight", spec := "ppolyRight", unfollowed := true, recurses := true, named := ["math/bits.deBruijn64tab", "math/bits.divideError", "math/bits.overflowError"], apart := false, laid := [("math/bits.deBruijn64tab", laid_math_bits_deBruijn64tab)] }
def PpolyRightSaid : Prop := ppolyRightRow.holds Tryd.pinned (OpenSpec.ofChange ppolyRightSpec)

/-- ITS FALSE NEIGHBOUR: 'it returns false'. Refute it at one input. -/
def ppolyRightWrong : ChangeSpec := { name := "ppolyRight", fn := fun _ => fun
  | [d1, d2] => { results := [.lit (.bool false)], args := [d1, d2] }
  | _ => none }
def PpolyRightWrongFalsely : Prop := ppolyRightRow.holds Tryd.pinned (OpenSpec.ofChange ppolyRightWrong)

/-- 'algebristlaw09.PpolyPowers': WHATEVER THE INPUT: true; the input reads as it did. -/
def ppolyPowersSpec : ChangeSpec := { name := "ppolyPowers", fn := fun _ => fun
  | [d1, d2, d3, d4] => { results := [.lit (.bool true)], args := [d1, d2, d3, d4] }
  | _ => none }
def ppolyPowersRow : OpenClaim := { program := "ytcefhnmhcapccaadoor", sum := "ec8582c6ca3151fa2d0e5a001e11f2804096efbc1fa7c897781468b15474c8dc", func := "algebrist/algebristlaw09.PpolyPowers", spec := "ppolyPowers", unfollowed := true, recurses := true, named := ["math/bits.deBruijn64tab", "math/bits.divideError", "math/bits.overflowError"], apart := false, laid := [("math/bits.deBruijn64tab", laid_math_bits_deBruijn64tab)] }
def PpolyPowersSaid : Prop := ppolyPowersRow.holds Tryd.pinned (OpenSpec.ofChange ppolyPowersSpec)

/-- ITS FALSE NEIGHBOUR: 'it returns false'. Refute it at one input. -/
def ppolyPowersWrong : ChangeSpec := { name := "ppolyPowers", fn := fun _ => fun
  | [d1, d2, d3, d4] => { results := [.lit (.bool false)], args := [d1, d2, d3, d4] }
  | _ => none }
def PpolyPowersWrongFalsely : Prop := ppolyPowersRow.holds Tryd.pinned (OpenSpec.ofChange ppolyPowersWrong)

/-- 'algebristlaw09.PpolyFrob': WHATEVER THE INPUT: true; the input reads as it did. -/
def ppolyFrobSpec : ChangeSpec := { name := "ppolyFrob", fn := fun _ => fun
  | [d1, d2, d3, d4] => { results := [.lit (.bool true)], args := [d1, d2, d3, d4] }
  | _ => none }
def ppolyFrobRow : OpenClaim := { program := "ytcefhnmhcapccaadoor", sum := "ec8582c6ca3151fa2d0e5a001e11f2804096efbc1fa7c897781468b15474c8dc", func := "algebrist/algebristlaw09.PpolyFrob", spec := "ppolyFrob", unfollowed := true, recurses := true, named := ["math/bits.deBruijn64tab", "math/bits.divideError", "math/bits.overflowError"], apart := false, laid := [("math/bits.deBruijn64tab", laid_math_bits_deBruijn64tab)] }
def PpolyFrobSaid : Prop := ppolyFrobRow.holds Tryd.pinned (OpenSpec.ofChange ppolyFrobSpec)

/-- ITS FALSE NEIGHBOUR: 'it returns false'. Refute it at one input. -/
def ppolyFrobWrong : ChangeSpec := { name := "ppolyFrob", fn := fun _ => fun
  | [d1, d2, d3, d4] => { results := [.lit (.bool false)], args := [d1, d2, d3, d4] }
  | _ => none }
def PpolyFrobWrongFalsely : Prop := ppolyFrobRow.holds Tryd.pinned (OpenSpec.ofChange ppolyFrobWrong)

/-- 'algebristlaw09.PpolyFrom': WHATEVER THE INPUT: true; the input reads as it did. -/
def ppolyFromSpec : ChangeSpec := { name := "ppolyFrom", fn := fun _ => fun
  | [d1, d2, d3] => { results := [.lit (.bool true)], args := [d1, d2, d3] }
  | _ => none }
def ppolyFromRow : OpenClaim := { program := "ytcefhnmhcapccaadoor", sum := "ec8582c6ca3151fa2d0e5a001e11f2804096efbc1fa7c897781468b15474c8dc", func := "algebrist/algebristlaw09.PpolyFrom", spec := "ppolyFrom", unfollowed := true, recurses := true, named := ["math/bits.deBruijn64tab", "math/bits.divideError", "math/bits.overflowError"], apart := false, laid := [("math/bits.deBruijn64tab", laid_math_bits_deBruijn64tab)] }
def PpolyFromSaid : Prop := ppolyFromRow.holds Tryd.pinned (OpenSpec.ofChange ppolyFromSpec)

/-- ITS FALSE NEIGHBOUR: 'it returns false'. Refute it at one input. -/
def ppolyFromWrong : ChangeSpec := { name := "ppolyFrom", fn := fun _ => fun
  | [d1, d2, d3] => { results := [.lit (.bool false)], args := [d1, d2, d3] }
  | _ => none }
def PpolyFromWrongFalsely : Prop := ppolyFromRow.holds Tryd.pinned (OpenSpec.ofChange ppolyFromWrong)

/- THE SECOND FORM. 'bulk': how many values and letters a reading holds, each counted each time it is reached (what is shared counts as often as it is met; a slice's spare places count too). A statement '..UptoSaid' is the law's where the arguments, and the package variables that the reading takes, are together of bulk at most 1048576: NARROWER than '..Said'. Prove '..Said' where nothing that the law and all that it calls make is longer than what came in: it says more and counts as full. Else prove '..UptoSaid'. A law counts once. -/
mutual
def uptoBulk {H : Type} : DataW H → Nat
  | .lit (.string bytes) => bytes.length + 1
  | .lit _ => 1
  | .nil => 1
  | .ptr d => uptoBulk d + 1
  | .slice elems spare => uptoBulkAll elems + uptoBulkAll spare + 1
  | .agg parts => uptoBulkAll parts + 1
  | .iface _ d => uptoBulk d + 1
  | .map entries => uptoBulkEntries entries + 1
  | .held _ => 1
def uptoBulkAll {H : Type} : List (DataW H) → Nat
  | [] => 0
  | d :: r => uptoBulk d + uptoBulkAll r
def uptoBulkEntries {H : Type} : List (Lit × DataW H) → Nat
  | [] => 0
  | x :: r => uptoBulkEntry x + uptoBulkEntries r
def uptoBulkEntry {H : Type} : Lit × DataW H → Nat
  | (.string bytes, d) => bytes.length + uptoBulk d + 1
  | (_, d) => uptoBulk d + 1
 end
def uptoSmall : (H : Type) → List (DataW H) → Bool := fun _ ds => decide (uptoBulkAll ds ≤ 1048576)
def OpenSpec.upto (s : _root_.Go.ChangeSpec) : _root_.Go.OpenSpec := { _root_.Go.OpenSpec.ofChange s with cond := some uptoSmall }

/-- 'algebristlaw09.PpolyDivides', WHERE WHAT IT READS IS OF BULK AT MOST 1048576: true; the input reads as it did. -/
def ppolyDividesUptoRow : OpenClaim := { program := "ytcefhnmhcapccaadoor", sum := "ec8582c6ca3151fa2d0e5a001e11f2804096efbc1fa7c897781468b15474c8dc", func := "algebrist/algebristlaw09.PpolyDivides", spec := "ppolyDivides", unfollowed := true, recurses := true, named := ["math/bits.deBruijn64tab", "math/bits.divideError", "math/bits.overflowError"], apart := false, laid := [("math/bits.deBruijn64tab", laid_math_bits_deBruijn64tab)], narrowed := true }
def PpolyDividesUptoSaid : Prop := ppolyDividesUptoRow.holds Tryd.pinned (OpenSpec.upto ppolyDividesSpec)

/-- 'algebristlaw09.PpolyGcd', WHERE WHAT IT READS IS OF BULK AT MOST 1048576: true; the input reads as it did. -/
def ppolyGcdUptoRow : OpenClaim := { program := "ytcefhnmhcapccaadoor", sum := "ec8582c6ca3151fa2d0e5a001e11f2804096efbc1fa7c897781468b15474c8dc", func := "algebrist/algebristlaw09.PpolyGcd", spec := "ppolyGcd", unfollowed := true, recurses := true, named := ["math/bits.deBruijn64tab", "math/bits.divideError", "math/bits.overflowError"], apart := false, laid := [("math/bits.deBruijn64tab", laid_math_bits_deBruijn64tab)], narrowed := true }
def PpolyGcdUptoSaid : Prop := ppolyGcdUptoRow.holds Tryd.pinned (OpenSpec.upto ppolyGcdSpec)

/-- 'algebristlaw09.PpolyHolds', WHERE WHAT IT READS IS OF BULK AT MOST 1048576: true; the input reads as it did. -/
def ppolyHoldsUptoRow : OpenClaim := { program := "ytcefhnmhcapccaadoor", sum := "ec8582c6ca3151fa2d0e5a001e11f2804096efbc1fa7c897781468b15474c8dc", func := "algebrist/algebristlaw09.PpolyHolds", spec := "ppolyHolds", unfollowed := true, recurses := true, named := ["math/bits.deBruijn64tab", "math/bits.divideError", "math/bits.overflowError"], apart := false, laid := [("math/bits.deBruijn64tab", laid_math_bits_deBruijn64tab)], narrowed := true }
def PpolyHoldsUptoSaid : Prop := ppolyHoldsUptoRow.holds Tryd.pinned (OpenSpec.upto ppolyHoldsSpec)

/-- 'algebristlaw09.PpolyRing', WHERE WHAT IT READS IS OF BULK AT MOST 1048576: true; the input reads as it did. -/
def ppolyRingUptoRow : OpenClaim := { program := "ytcefhnmhcapccaadoor", sum := "ec8582c6ca3151fa2d0e5a001e11f2804096efbc1fa7c897781468b15474c8dc", func := "algebrist/algebristlaw09.PpolyRing", spec := "ppolyRing", unfollowed := true, recurses := true, named := ["math/bits.deBruijn64tab", "math/bits.divideError", "math/bits.overflowError"], apart := false, laid := [("math/bits.deBruijn64tab", laid_math_bits_deBruijn64tab)], narrowed := true }
def PpolyRingUptoSaid : Prop := ppolyRingUptoRow.holds Tryd.pinned (OpenSpec.upto ppolyRingSpec)

/-- 'algebristlaw09.PpolySums', WHERE WHAT IT READS IS OF BULK AT MOST 1048576: true; the input reads as it did. -/
def ppolySumsUptoRow : OpenClaim := { program := "ytcefhnmhcapccaadoor", sum := "ec8582c6ca3151fa2d0e5a001e11f2804096efbc1fa7c897781468b15474c8dc", func := "algebrist/algebristlaw09.PpolySums", spec := "ppolySums", unfollowed := true, recurses := true, named := ["math/bits.deBruijn64tab", "math/bits.divideError", "math/bits.overflowError"], apart := false, laid := [("math/bits.deBruijn64tab", laid_math_bits_deBruijn64tab)], narrowed := true }
def PpolySumsUptoSaid : Prop := ppolySumsUptoRow.holds Tryd.pinned (OpenSpec.upto ppolySumsSpec)

/-- 'algebristlaw09.PpolyRight', WHERE WHAT IT READS IS OF BULK AT MOST 1048576: true; the input reads as it did. -/
def ppolyRightUptoRow : OpenClaim := { program := "ytcefhnmhcapccaadoor", sum := "ec8582c6ca3151fa2d0e5a001e11f2804096efbc1fa7c897781468b15474c8dc", func := "algebrist/algebristlaw09.PpolyRight", spec := "ppolyRight", unfollowed := true, recurses := true, named := ["math/bits.deBruijn64tab", "math/bits.divideError", "math/bits.overflowError"], apart := false, laid := [("math/bits.deBruijn64tab", laid_math_bits_deBruijn64tab)], narrowed := true }
def PpolyRightUptoSaid : Prop := ppolyRightUptoRow.holds Tryd.pinned (OpenSpec.upto ppolyRightSpec)

/-- 'algebristlaw09.PpolyPowers', WHERE WHAT IT READS IS OF BULK AT MOST 1048576: true; the input reads as it did. -/
def ppolyPowersUptoRow : OpenClaim := { program := "ytcefhnmhcapccaadoor", sum := "ec8582c6ca3151fa2d0e5a001e11f2804096efbc1fa7c897781468b15474c8dc", func := "algebrist/algebristlaw09.PpolyPowers", spec := "ppolyPowers", unfollowed := true, recurses := true, named := ["math/bits.deBruijn64tab", "math/bits.divideError", "math/bits.overflowError"], apart := false, laid := [("math/bits.deBruijn64tab", laid_math_bits_deBruijn64tab)], narrowed := true }
def PpolyPowersUptoSaid : Prop := ppolyPowersUptoRow.holds Tryd.pinned (OpenSpec.upto ppolyPowersSpec)

/-- 'algebristlaw09.PpolyFrob', WHERE WHAT IT READS IS OF BULK AT MOST 1048576: true; the input reads as it did. -/
def ppolyFrobUptoRow : OpenClaim := { program := "ytcefhnmhcapccaadoor", sum := "ec8582c6ca3151fa2d0e5a001e11f2804096efbc1fa7c897781468b15474c8dc", func := "algebrist/algebristlaw09.PpolyFrob", spec := "ppolyFrob", unfollowed := true, recurses := true, named := ["math/bits.deBruijn64tab", "math/bits.divideError", "math/bits.overflowError"], apart := false, laid := [("math/bits.deBruijn64tab", laid_math_bits_deBruijn64tab)], narrowed := true }
def PpolyFrobUptoSaid : Prop := ppolyFrobUptoRow.holds Tryd.pinned (OpenSpec.upto ppolyFrobSpec)

/-- 'algebristlaw09.PpolyFrom', WHERE WHAT IT READS IS OF BULK AT MOST 1048576: true; the input reads as it did. -/
def ppolyFromUptoRow : OpenClaim := { program := "ytcefhnmhcapccaadoor", sum := "ec8582c6ca3151fa2d0e5a001e11f2804096efbc1fa7c897781468b15474c8dc", func := "algebrist/algebristlaw09.PpolyFrom", spec := "ppolyFrom", unfollowed := true, recurses := true, named := ["math/bits.deBruijn64tab", "math/bits.divideError", "math/bits.overflowError"], apart := false, laid := [("math/bits.deBruijn64tab", laid_math_bits_deBruijn64tab)], narrowed := true }
def PpolyFromUptoSaid : Prop := ppolyFromUptoRow.holds Tryd.pinned (OpenSpec.upto ppolyFromSpec)

end Rows
end Go.Proofs.YtcefhnmhcapccaaDoor
