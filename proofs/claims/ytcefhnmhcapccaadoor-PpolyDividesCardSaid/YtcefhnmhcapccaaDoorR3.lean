/- The tied card of PpolyDivides, given that awake answers true. -/
import Derived.Test.YtcefhnmhcapccaaDoorR2
import Derived.Test.YtcefhnmhcapccaaDoorCards
import Derived.Test.YtcefhnmhcapccaaDoorTie
import Derived.SevenTiedAt
namespace Go.Proofs.YtcefhnmhcapccaaDoor
open Go
set_option maxRecDepth 100000
theorem divides_card (hA : Awake) : Rows.PpolyDividesCardSaid :=
  Claim7.holds_tied_plain_at .later [] [.data] true (true, "36bedacbe3b66477d1b414e0ff66ac871c6de65ddf05cb1c97208d9c3a605ec5") false
    (divides_over hA) (fun _ h => by cases h) (by kernel_rfl) (fun _ h => by cases h) ppolyDivides_row_tie rfl ⟨rfl, rfl⟩ (by kernel_rfl) rfl
    (fun f fn hf hfn => by
      obtain rfl : f = 3 := Option.some.inj ((show Tryd.prog.funcNamed "algebrist/algebristlaw09.PpolyDivides" = some 3 by kernel_rfl).symm.trans hf) |>.symm
      obtain rfl : fn = Tryd.f3 := (Option.some.inj (Tryd.func3.symm.trans hfn)).symm
      exact ⟨by kernel_rfl, fun j t ht => by
        rw [Tryd.params3] at ht
        have hm : t ∈ [25, 25] := by simpa using Array.mem_of_getElem? ht
        have hall : ([25, 25].all fun u => !Tryd.prog.wantsStandIn u) = true := by kernel_rfl
        exact (show Tryd.prog.wantsStandIn t = false by simpa using List.all_eq_true.1 hall t hm)⟩)
    (by kernel_rfl)
end Go.Proofs.YtcefhnmhcapccaaDoor
