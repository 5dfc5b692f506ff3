/- The tied card of PpolyDivides: for any two polynomials over a prime, of degree 20 at most, quotient and remainder are as the document says, or refused, and make the polynomial again. -/
import Derived.Test.YtcefhnmhcapccaaDoorR3
import Derived.Test.YtcefhnmhcapccaaDoorW31
namespace Go.Proofs.YtcefhnmhcapccaaDoor
theorem divides_done : Rows.PpolyDividesCardSaid := divides_card awake_true
end Go.Proofs.YtcefhnmhcapccaaDoor
