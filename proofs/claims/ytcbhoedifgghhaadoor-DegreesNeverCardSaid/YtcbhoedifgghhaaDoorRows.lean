/-
  NARROWER THAN 'FOR EVERY INPUT', by the rows' own cells (each row's printed sentence says how): DegreesParts: laid · DegreesProduct: laid · DegreesProves: laid · DegreesTried: laid · DegreesHolds: laid · DegreesCounts: laid · DegreesNever: laid · PpolySums: laid · PpolyRight: laid.
  DERIVED. THE GIVEN ROWS OF THIS SEAT. 9 by the template 'for every input the law returns true; each argument reads behind the call as it read before'; 0 by the template 'total and deterministic' (their statements: YtcbhoedifgghhaaDoorTotals.lean).
  GIVEN WITH THE SEED: the statements are not yours to turn. If you find one false, say at which input.
  Laid BY PROGRAM, IN A SANDBOX (cutbox-rows.mjs): the forced cells as the released guide's own fill.sh prints them over the translation 9e414fd923115a36… (all of the seat's roots in one cut). By AI agents, Wed Nov 11 2026. No macro, syntax, notation, axiom, sorry.
-/
import Derived.Test.YtcbhoedifgghhaaDoorChecked
import GoSem.Claim
import GoSem.ClaimJoined
import GoSem.ClaimMapViews
import Derived.JoinedTies
import Derived.KernelRfl
namespace Go.Proofs.YtcbhoedifgghhaaDoor
/- THE CELL 'sum', in the pinned program and in every row, IS THE sha256 OF THE DUMP (.gsa) THAT YtcbhoedifgghhaaDoorProg.lean LOADS. Nothing in Lean hashes anything: it is a label: what it is worth is what the hold of that sum in a sandbox is worth. -/
noncomputable def Tryd.pinned : Pinned := { name := "ytcbhoedifgghhaadoor", sum := "9e414fd923115a36ee61551188825321301085a0039130483be336f125acc0fd", checked := Tryd.checked }
namespace Rows
def none {H : Type} : Left H := { results := [], args := [] }

/- WHAT THE LISTED PACKAGE-LEVEL VARIABLES READ AS WHEN THE CALL BEGINS. Each datum BY PROGRAM (the guide's laid-datum.mjs) off the statement by which the dump's own 'gosem.cut.vars' lays the variable. In a bare row this is a premise. The card (YtcbhoedifgghhaaDoorCards.lean) ties it to the program's text. -/
def laid_math_bits_deBruijn64tab {H : Type} : DataW H := .agg [.lit (.int .u8 0), .lit (.int .u8 1), .lit (.int .u8 56), .lit (.int .u8 2), .lit (.int .u8 57), .lit (.int .u8 49), .lit (.int .u8 28), .lit (.int .u8 3), .lit (.int .u8 61), .lit (.int .u8 58), .lit (.int .u8 42), .lit (.int .u8 50), .lit (.int .u8 38), .lit (.int .u8 29), .lit (.int .u8 17), .lit (.int .u8 4), .lit (.int .u8 62), .lit (.int .u8 47), .lit (.int .u8 59), .lit (.int .u8 36), .lit (.int .u8 45), .lit (.int .u8 43), .lit (.int .u8 51), .lit (.int .u8 22), .lit (.int .u8 53), .lit (.int .u8 39), .lit (.int .u8 33), .lit (.int .u8 30), .lit (.int .u8 24), .lit (.int .u8 18), .lit (.int .u8 12), .lit (.int .u8 5), .lit (.int .u8 63), .lit (.int .u8 55), .lit (.int .u8 48), .lit (.int .u8 27), .lit (.int .u8 60), .lit (.int .u8 41), .lit (.int .u8 37), .lit (.int .u8 16), .lit (.int .u8 46), .lit (.int .u8 35), .lit (.int .u8 44), .lit (.int .u8 21), .lit (.int .u8 52), .lit (.int .u8 32), .lit (.int .u8 23), .lit (.int .u8 11), .lit (.int .u8 54), .lit (.int .u8 26), .lit (.int .u8 40), .lit (.int .u8 15), .lit (.int .u8 34), .lit (.int .u8 20), .lit (.int .u8 31), .lit (.int .u8 10), .lit (.int .u8 25), .lit (.int .u8 14), .lit (.int .u8 19), .lit (.int .u8 9), .lit (.int .u8 13), .lit (.int .u8 8), .lit (.int .u8 7), .lit (.int .u8 6)]

/-- 'algebristlaw15.DegreesParts': WHATEVER THE INPUT: true; the input reads as it did. -/
def degreesPartsSpec : ChangeSpec := { name := "degreesParts", fn := fun _ => fun
  | [d] => { results := [.lit (.bool true)], args := [d] }
  | _ => none }
def degreesPartsRow : OpenClaim := { program := "ytcbhoedifgghhaadoor", sum := "9e414fd923115a36ee61551188825321301085a0039130483be336f125acc0fd", func := "algebrist/algebristlaw15.DegreesParts", spec := "degreesParts", unfollowed := true, recurses := true, named := ["math/bits.deBruijn64tab", "math/bits.divideError", "math/bits.overflowError"], apart := false, laid := [("math/bits.deBruijn64tab", laid_math_bits_deBruijn64tab)] }
def DegreesPartsSaid : Prop := degreesPartsRow.holds Tryd.pinned (OpenSpec.ofChange degreesPartsSpec)

/-- ITS FALSE NEIGHBOUR: 'it returns false'. Refute it at one input. -/
def degreesPartsWrong : ChangeSpec := { name := "degreesParts", fn := fun _ => fun
  | [d] => { results := [.lit (.bool false)], args := [d] }
  | _ => none }
def DegreesPartsWrongFalsely : Prop := degreesPartsRow.holds Tryd.pinned (OpenSpec.ofChange degreesPartsWrong)

/-- 'algebristlaw15.DegreesProduct': WHATEVER THE INPUT: true; the input reads as it did. -/
def degreesProductSpec : ChangeSpec := { name := "degreesProduct", fn := fun _ => fun
  | [d] => { results := [.lit (.bool true)], args := [d] }
  | _ => none }
def degreesProductRow : OpenClaim := { program := "ytcbhoedifgghhaadoor", sum := "9e414fd923115a36ee61551188825321301085a0039130483be336f125acc0fd", func := "algebrist/algebristlaw15.DegreesProduct", spec := "degreesProduct", unfollowed := true, recurses := true, named := ["math/bits.deBruijn64tab", "math/bits.divideError", "math/bits.overflowError"], apart := false, laid := [("math/bits.deBruijn64tab", laid_math_bits_deBruijn64tab)] }
def DegreesProductSaid : Prop := degreesProductRow.holds Tryd.pinned (OpenSpec.ofChange degreesProductSpec)

/-- ITS FALSE NEIGHBOUR: 'it returns false'. Refute it at one input. -/
def degreesProductWrong : ChangeSpec := { name := "degreesProduct", fn := fun _ => fun
  | [d] => { results := [.lit (.bool false)], args := [d] }
  | _ => none }
def DegreesProductWrongFalsely : Prop := degreesProductRow.holds Tryd.pinned (OpenSpec.ofChange degreesProductWrong)

/-- 'algebristlaw15.DegreesProves': WHATEVER THE INPUT: true; the input reads as it did. -/
def degreesProvesSpec : ChangeSpec := { name := "degreesProves", fn := fun _ => fun
  | [d] => { results := [.lit (.bool true)], args := [d] }
  | _ => none }
def degreesProvesRow : OpenClaim := { program := "ytcbhoedifgghhaadoor", sum := "9e414fd923115a36ee61551188825321301085a0039130483be336f125acc0fd", func := "algebrist/algebristlaw15.DegreesProves", spec := "degreesProves", unfollowed := true, recurses := true, named := ["math/bits.deBruijn64tab", "math/bits.divideError", "math/bits.overflowError"], apart := false, laid := [("math/bits.deBruijn64tab", laid_math_bits_deBruijn64tab)] }
def DegreesProvesSaid : Prop := degreesProvesRow.holds Tryd.pinned (OpenSpec.ofChange degreesProvesSpec)

/-- ITS FALSE NEIGHBOUR: 'it returns false'. Refute it at one input. -/
def degreesProvesWrong : ChangeSpec := { name := "degreesProves", fn := fun _ => fun
  | [d] => { results := [.lit (.bool false)], args := [d] }
  | _ => none }
def DegreesProvesWrongFalsely : Prop := degreesProvesRow.holds Tryd.pinned (OpenSpec.ofChange degreesProvesWrong)

/-- 'algebristlaw15.DegreesTried': WHATEVER THE INPUT: true; the input reads as it did. -/
def degreesTriedSpec : ChangeSpec := { name := "degreesTried", fn := fun _ => fun
  | [d] => { results := [.lit (.bool true)], args := [d] }
  | _ => none }
def degreesTriedRow : OpenClaim := { program := "ytcbhoedifgghhaadoor", sum := "9e414fd923115a36ee61551188825321301085a0039130483be336f125acc0fd", func := "algebrist/algebristlaw15.DegreesTried", spec := "degreesTried", unfollowed := true, recurses := true, named := ["math/bits.deBruijn64tab", "math/bits.divideError", "math/bits.overflowError"], apart := false, laid := [("math/bits.deBruijn64tab", laid_math_bits_deBruijn64tab)] }
def DegreesTriedSaid : Prop := degreesTriedRow.holds Tryd.pinned (OpenSpec.ofChange degreesTriedSpec)

/-- ITS FALSE NEIGHBOUR: 'it returns false'. Refute it at one input. -/
def degreesTriedWrong : ChangeSpec := { name := "degreesTried", fn := fun _ => fun
  | [d] => { results := [.lit (.bool false)], args := [d] }
  | _ => none }
def DegreesTriedWrongFalsely : Prop := degreesTriedRow.holds Tryd.pinned (OpenSpec.ofChange degreesTriedWrong)

/-- 'algebristlaw15.DegreesHolds': WHATEVER THE INPUT: true; the input reads as it did. -/
def degreesHoldsSpec : ChangeSpec := { name := "degreesHolds", fn := fun _ => fun
  | [d] => { results := [.lit (.bool true)], args := [d] }
  | _ => none }
def degreesHoldsRow : OpenClaim := { program := "ytcbhoedifgghhaadoor", sum := "9e414fd923115a36ee61551188825321301085a0039130483be336f125acc0fd", func := "algebrist/algebristlaw15.DegreesHolds", spec := "degreesHolds", unfollowed := true, recurses := true, named := ["math/bits.deBruijn64tab", "math/bits.divideError", "math/bits.overflowError"], apart := false, laid := [("math/bits.deBruijn64tab", laid_math_bits_deBruijn64tab)] }
def DegreesHoldsSaid : Prop := degreesHoldsRow.holds Tryd.pinned (OpenSpec.ofChange degreesHoldsSpec)

/-- ITS FALSE NEIGHBOUR: 'it returns false'. Refute it at one input. -/
def degreesHoldsWrong : ChangeSpec := { name := "degreesHolds", fn := fun _ => fun
  | [d] => { results := [.lit (.bool false)], args := [d] }
  | _ => none }
def DegreesHoldsWrongFalsely : Prop := degreesHoldsRow.holds Tryd.pinned (OpenSpec.ofChange degreesHoldsWrong)

/-- 'algebristlaw15.DegreesCounts': WHATEVER THE INPUT: true; the input reads as it did. -/
def degreesCountsSpec : ChangeSpec := { name := "degreesCounts", fn := fun _ => fun
  | [d1, d2] => { results := [.lit (.bool true)], args := [d1, d2] }
  | _ => none }
def degreesCountsRow : OpenClaim := { program := "ytcbhoedifgghhaadoor", sum := "9e414fd923115a36ee61551188825321301085a0039130483be336f125acc0fd", func := "algebrist/algebristlaw15.DegreesCounts", spec := "degreesCounts", unfollowed := true, recurses := true, named := ["math/bits.deBruijn64tab", "math/bits.divideError", "math/bits.overflowError"], apart := false, laid := [("math/bits.deBruijn64tab", laid_math_bits_deBruijn64tab)] }
def DegreesCountsSaid : Prop := degreesCountsRow.holds Tryd.pinned (OpenSpec.ofChange degreesCountsSpec)

/-- ITS FALSE NEIGHBOUR: 'it returns false'. Refute it at one input. -/
def degreesCountsWrong : ChangeSpec := { name := "degreesCounts", fn := fun _ => fun
  | [d1, d2] => { results := [.lit (.bool false)], args := [d1, d2] }
  | _ => none }
def DegreesCountsWrongFalsely : Prop := degreesCountsRow.holds Tryd.pinned (OpenSpec.ofChange degreesCountsWrong)

/-- 'algebristlaw15.DegreesNever': WHATEVER THE INPUT: true; the input reads as it did. -/
def degreesNeverSpec : ChangeSpec := { name := "degreesNever", fn := fun _ => fun
  | [d1, d2, d3] => { results := [.lit (.bool true)], args := [d1, d2, d3] }
  | _ => none }
def degreesNeverRow : OpenClaim := { program := "ytcbhoedifgghhaadoor", sum := "9e414fd923115a36ee61551188825321301085a0039130483be336f125acc0fd", func := "algebrist/algebristlaw15.DegreesNever", spec := "degreesNever", unfollowed := true, recurses := true, named := ["math/bits.deBruijn64tab", "math/bits.divideError", "math/bits.overflowError"], apart := false, laid := [("math/bits.deBruijn64tab", laid_math_bits_deBruijn64tab)] }
def DegreesNeverSaid : Prop := degreesNeverRow.holds Tryd.pinned (OpenSpec.ofChange degreesNeverSpec)

/-- ITS FALSE NEIGHBOUR: 'it returns false'. Refute it at one input. -/
def degreesNeverWrong : ChangeSpec := { name := "degreesNever", fn := fun _ => fun
  | [d1, d2, d3] => { results := [.lit (.bool false)], args := [d1, d2, d3] }
  | _ => none }
def DegreesNeverWrongFalsely : Prop := degreesNeverRow.holds Tryd.pinned (OpenSpec.ofChange degreesNeverWrong)

/-- 'algebristlaw09.PpolySums': WHATEVER THE INPUT: true; the input reads as it did. -/
def ppolySumsSpec : ChangeSpec := { name := "ppolySums", fn := fun _ => fun
  | [d1, d2, d3] => { results := [.lit (.bool true)], args := [d1, d2, d3] }
  | _ => none }
def ppolySumsRow : OpenClaim := { program := "ytcbhoedifgghhaadoor", sum := "9e414fd923115a36ee61551188825321301085a0039130483be336f125acc0fd", func := "algebrist/algebristlaw09.PpolySums", spec := "ppolySums", unfollowed := true, recurses := true, named := ["math/bits.deBruijn64tab", "math/bits.divideError", "math/bits.overflowError"], apart := false, laid := [("math/bits.deBruijn64tab", laid_math_bits_deBruijn64tab)] }
def PpolySumsSaid : Prop := ppolySumsRow.holds Tryd.pinned (OpenSpec.ofChange ppolySumsSpec)

/-- ITS FALSE NEIGHBOUR: 'it returns false'. Refute it at one input. -/
def ppolySumsWrong : ChangeSpec := { name := "ppolySums", fn := fun _ => fun
  | [d1, d2, d3] => { results := [.lit (.bool false)], args := [d1, d2, d3] }
  | _ => none }
def PpolySumsWrongFalsely : Prop := ppolySumsRow.holds Tryd.pinned (OpenSpec.ofChange ppolySumsWrong)

/-- 'algebristlaw09.PpolyRight': WHATEVER THE INPUT: true; the input reads as it did. -/
def ppolyRightSpec : ChangeSpec := { name := "ppolyRight", fn := fun _ => fun
  | [d1, d2] => { results := [.lit (.bool true)], args := [d1, d2] }
  | _ => none }
def ppolyRightRow : OpenClaim := { program := "ytcbhoedifgghhaadoor", sum := "9e414fd923115a36ee61551188825321301085a0039130483be336f125acc0fd", func := "algebrist/algebristlaw09.PpolyRight", spec := "ppolyRight", unfollowed := true, recurses := true, named := ["math/bits.deBruijn64tab", "math/bits.divideError", "math/bits.overflowError"], apart := false, laid := [("math/bits.deBruijn64tab", laid_math_bits_deBruijn64tab)] }
def PpolyRightSaid : Prop := ppolyRightRow.holds Tryd.pinned (OpenSpec.ofChange ppolyRightSpec)

/-- ITS FALSE NEIGHBOUR: 'it returns false'. Refute it at one input. -/
def ppolyRightWrong : ChangeSpec := { name := "ppolyRight", fn := fun _ => fun
  | [d1, d2] => { results := [.lit (.bool false)], args := [d1, d2] }
  | _ => none }
def PpolyRightWrongFalsely : Prop := ppolyRightRow.holds Tryd.pinned (OpenSpec.ofChange ppolyRightWrong)

/- THE SECOND FORM. 'bulk': how many values and letters a reading holds, each counted each time it is reached (what is shared counts as often as it is met; a slice's spare places count too). A statement '..UptoSaid' is the law's where the arguments, and the package variables that the reading takes, are together of bulk at most 1048576: NARROWER than '..Said'. Prove '..Said' where nothing that the law and all that it calls make is longer than what came in: it says more and counts as full. Else prove '..UptoSaid'. A law counts once. -/
mutual
def uptoBulk {H : Type} : DataW H → Nat
  | .lit (.string bytes) => bytes.length + 1
  | .lit _ => 1
  | .nil => 1
  | .ptr d => uptoBulk d + 1
  | .slice elems spare => uptoBulkAll elems + uptoBulkAll spare + 1
  | .agg parts => uptoBulkAll parts + 1
  | .iface _ d => uptoBulk d + 1
  | .map entries => uptoBulkEntries entries + 1
  | .held _ => 1
def uptoBulkAll {H : Type} : List (DataW H) → Nat
  | [] => 0
  | d :: r => uptoBulk d + uptoBulkAll r
def uptoBulkEntries {H : Type} : List (Lit × DataW H) → Nat
  | [] => 0
  | x :: r => uptoBulkEntry x + uptoBulkEntries r
def uptoBulkEntry {H : Type} : Lit × DataW H → Nat
  | (.string bytes, d) => bytes.length + uptoBulk d + 1
  | (_, d) => uptoBulk d + 1
 end
def uptoSmall : (H : Type) → List (DataW H) → Bool := fun _ ds => decide (uptoBulkAll ds ≤ 1048576)
def OpenSpec.upto (s : _root_.Go.ChangeSpec) : _root_.Go.OpenSpec := { _root_.Go.OpenSpec.ofChange s with cond := some uptoSmall }

/-- 'algebristlaw15.DegreesParts', WHERE WHAT IT READS IS OF BULK AT MOST 1048576: true; the input reads as it did. -/
def degreesPartsUptoRow : OpenClaim := { program := "ytcbhoedifgghhaadoor", sum := "9e414fd923115a36ee61551188825321301085a0039130483be336f125acc0fd", func := "algebrist/algebristlaw15.DegreesParts", spec := "degreesParts", unfollowed := true, recurses := true, named := ["math/bits.deBruijn64tab", "math/bits.divideError", "math/bits.overflowError"], apart := false, laid := [("math/bits.deBruijn64tab", laid_math_bits_deBruijn64tab)], narrowed := true }
def DegreesPartsUptoSaid : Prop := degreesPartsUptoRow.holds Tryd.pinned (OpenSpec.upto degreesPartsSpec)

/-- 'algebristlaw15.DegreesProduct', WHERE WHAT IT READS IS OF BULK AT MOST 1048576: true; the input reads as it did. -/
def degreesProductUptoRow : OpenClaim := { program := "ytcbhoedifgghhaadoor", sum := "9e414fd923115a36ee61551188825321301085a0039130483be336f125acc0fd", func := "algebrist/algebristlaw15.DegreesProduct", spec := "degreesProduct", unfollowed := true, recurses := true, named := ["math/bits.deBruijn64tab", "math/bits.divideError", "math/bits.overflowError"], apart := false, laid := [("math/bits.deBruijn64tab", laid_math_bits_deBruijn64tab)], narrowed := true }
def DegreesProductUptoSaid : Prop := degreesProductUptoRow.holds Tryd.pinned (OpenSpec.upto degreesProductSpec)

/-- 'algebristlaw15.DegreesProves', WHERE WHAT IT READS IS OF BULK AT MOST 1048576: true; the input reads as it did. -/
def degreesProvesUptoRow : OpenClaim := { program := "ytcbhoedifgghhaadoor", sum := "9e414fd923115a36ee61551188825321301085a0039130483be336f125acc0fd", func := "algebrist/algebristlaw15.DegreesProves", spec := "degreesProves", unfollowed := true, recurses := true, named := ["math/bits.deBruijn64tab", "math/bits.divideError", "math/bits.overflowError"], apart := false, laid := [("math/bits.deBruijn64tab", laid_math_bits_deBruijn64tab)], narrowed := true }
def DegreesProvesUptoSaid : Prop := degreesProvesUptoRow.holds Tryd.pinned (OpenSpec.upto degreesProvesSpec)

/-- 'algebristlaw15.DegreesTried', WHERE WHAT IT READS IS OF BULK AT MOST 1048576: true; the input reads as it did. -/
def degreesTriedUptoRow : OpenClaim := { program := "ytcbhoedifgghhaadoor", sum := "9e414fd923115a36ee61551188825321301085a0039130483be336f125acc0fd", func := "algebrist/algebristlaw15.DegreesTried", spec := "degreesTried", unfollowed := true, recurses := true, named := ["math/bits.deBruijn64tab", "math/bits.divideError", "math/bits.overflowError"], apart := false, laid := [("math/bits.deBruijn64tab", laid_math_bits_deBruijn64tab)], narrowed := true }
def DegreesTriedUptoSaid : Prop := degreesTriedUptoRow.holds Tryd.pinned (OpenSpec.upto degreesTriedSpec)

/-- 'algebristlaw15.DegreesHolds', WHERE WHAT IT READS IS OF BULK AT MOST 1048576: true; the input reads as it did. -/
def degreesHoldsUptoRow : OpenClaim := { program := "ytcbhoedifgghhaadoor", sum := "9e414fd923115a36ee61551188825321301085a0039130483be336f125acc0fd", func := "algebrist/algebristlaw15.DegreesHolds", spec := "degreesHolds", unfollowed := true, recurses := true, named := ["math/bits.deBruijn64tab", "math/bits.divideError", "math/bits.overflowError"], apart := false, laid := [("math/bits.deBruijn64tab", laid_math_bits_deBruijn64tab)], narrowed := true }
def DegreesHoldsUptoSaid : Prop := degreesHoldsUptoRow.holds Tryd.pinned (OpenSpec.upto degreesHoldsSpec)

/-- 'algebristlaw15.DegreesCounts', WHERE WHAT IT READS IS OF BULK AT MOST 1048576: true; the input reads as it did. -/
def degreesCountsUptoRow : OpenClaim := { program := "ytcbhoedifgghhaadoor", sum := "9e414fd923115a36ee61551188825321301085a0039130483be336f125acc0fd", func := "algebrist/algebristlaw15.DegreesCounts", spec := "degreesCounts", unfollowed := true, recurses := true, named := ["math/bits.deBruijn64tab", "math/bits.divideError", "math/bits.overflowError"], apart := false, laid := [("math/bits.deBruijn64tab", laid_math_bits_deBruijn64tab)], narrowed := true }
def DegreesCountsUptoSaid : Prop := degreesCountsUptoRow.holds Tryd.pinned (OpenSpec.upto degreesCountsSpec)

/-- 'algebristlaw15.DegreesNever', WHERE WHAT IT READS IS OF BULK AT MOST 1048576: true; the input reads as it did. -/
def degreesNeverUptoRow : OpenClaim := { program := "ytcbhoedifgghhaadoor", sum := "9e414fd923115a36ee61551188825321301085a0039130483be336f125acc0fd", func := "algebrist/algebristlaw15.DegreesNever", spec := "degreesNever", unfollowed := true, recurses := true, named := ["math/bits.deBruijn64tab", "math/bits.divideError", "math/bits.overflowError"], apart := false, laid := [("math/bits.deBruijn64tab", laid_math_bits_deBruijn64tab)], narrowed := true }
def DegreesNeverUptoSaid : Prop := degreesNeverUptoRow.holds Tryd.pinned (OpenSpec.upto degreesNeverSpec)

/-- 'algebristlaw09.PpolySums', WHERE WHAT IT READS IS OF BULK AT MOST 1048576: true; the input reads as it did. -/
def ppolySumsUptoRow : OpenClaim := { program := "ytcbhoedifgghhaadoor", sum := "9e414fd923115a36ee61551188825321301085a0039130483be336f125acc0fd", func := "algebrist/algebristlaw09.PpolySums", spec := "ppolySums", unfollowed := true, recurses := true, named := ["math/bits.deBruijn64tab", "math/bits.divideError", "math/bits.overflowError"], apart := false, laid := [("math/bits.deBruijn64tab", laid_math_bits_deBruijn64tab)], narrowed := true }
def PpolySumsUptoSaid : Prop := ppolySumsUptoRow.holds Tryd.pinned (OpenSpec.upto ppolySumsSpec)

/-- 'algebristlaw09.PpolyRight', WHERE WHAT IT READS IS OF BULK AT MOST 1048576: true; the input reads as it did. -/
def ppolyRightUptoRow : OpenClaim := { program := "ytcbhoedifgghhaadoor", sum := "9e414fd923115a36ee61551188825321301085a0039130483be336f125acc0fd", func := "algebrist/algebristlaw09.PpolyRight", spec := "ppolyRight", unfollowed := true, recurses := true, named := ["math/bits.deBruijn64tab", "math/bits.divideError", "math/bits.overflowError"], apart := false, laid := [("math/bits.deBruijn64tab", laid_math_bits_deBruijn64tab)], narrowed := true }
def PpolyRightUptoSaid : Prop := ppolyRightUptoRow.holds Tryd.pinned (OpenSpec.upto ppolyRightSpec)

end Rows
end Go.Proofs.YtcbhoedifgghhaaDoor
