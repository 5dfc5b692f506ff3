/- The law for drawn regions: an operation whose guard says no is passed over. -/
import Derived.Test.YtcefhnmhcapccaaDoorHH
open Go
namespace Alg
section
variable {P : Program} {ops : Array Oper} {Q : Exit → Act → World → Prop} {S1 S2 : World → Prop}
theorem held2_skip1 {o : Oper} {l : List (Nat × Oper)} {a : Act} {w : World} {b : Bool} (hw : Region.wanted o (yielded ops a.tmps) = false)
    (h : wpHeld2 P ops Q S1 S2 b l (a.put o.dst undef) w) : wpHeld2 P ops Q S1 S2 b ((1, o) :: l) a w := ⟨undef, Or.inr ⟨hw, rfl⟩, h⟩
theorem held2_skip2 {o : Oper} {l : List (Nat × Oper)} {a : Act} {w : World} {b : Bool} (hw : Region.wanted o (yielded ops a.tmps) = false)
    (h : wpHeld2 P ops Q S1 S2 b l (a.put o.dst undef) w) : wpHeld2 P ops Q S1 S2 b ((2, o) :: l) a w := ⟨undef, Or.inr ⟨hw, rfl⟩, h⟩
end
end Alg
