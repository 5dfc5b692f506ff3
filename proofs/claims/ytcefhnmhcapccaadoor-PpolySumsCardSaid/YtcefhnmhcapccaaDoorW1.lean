/- Contracts of the small functions on numbers modulo p. -/
import Derived.Test.YtcefhnmhcapccaaDoorProg
import Derived.Test.YtcefhnmhcapccaaDoorW0
open Alg
namespace Go.Proofs.YtcefhnmhcapccaaDoor
open Go.RowKit
theorem cMul_le {a b : Nat} (ha : a < 4294967296) (hb : b < 4294967296) : (a : Int) * (b : Int) ≤ 18446744065119617025 ∧ 0 ≤ (a : Int) * (b : Int) := by
  have : a * b ≤ 4294967295 * 4294967295 := Nat.mul_le_mul (by omega) (by omega)
  have e : (a : Int) * (b : Int) = ((a * b : Nat) : Int) := by rw [Int.natCast_mul]
  omega
theorem ret_int {k : IntKind} {a b : Int} (h : a = b) : Ending.returned (.int k a) = .returned (.int k b) := by rw [h]
theorem addM_cast (p a b : Nat) : ((addM p a b : Nat) : Int) = ((a : Int) + b) % p := by simp [addM]
theorem mulM_cast (p a b : Nat) : ((mulM p a b : Nat) : Int) = ((a : Int) * b) % p := by simp [mulM]
theorem modp_Add (p a b : Nat) (w : World) (hp0 : 0 < p) (hp : p < 4294967296) (ha : a < 4294967296) (hb : b < 4294967296) :
    Calls Tryd.prog 66 #[.int .u32 p, .int .u32 a, .int .u32 b] w fun e w' => e = .returned (.int .u32 (addM p a b : Nat)) ∧ w' = w := by
  have h1 : ((a : Int) + b) % p < p := Int.emod_lt_of_pos _ (by omega)
  have h2 : 0 ≤ ((a : Int) + b) % p := Int.emod_nonneg _ (by omega)
  go_enter Tryd.func66, Tryd.ntmps66
  go_wp2
  go_ret
  exact ⟨ret_int (addM_cast p a b).symm, rfl⟩
theorem modp_Mul (p a b : Nat) (w : World) (hp0 : 0 < p) (hp : p < 4294967296) (ha : a < 4294967296) (hb : b < 4294967296) :
    Calls Tryd.prog 58 #[.int .u32 p, .int .u32 a, .int .u32 b] w fun e w' => e = .returned (.int .u32 (mulM p a b : Nat)) ∧ w' = w := by
  have h1 : ((a : Int) * b) % p < p := Int.emod_lt_of_pos _ (by omega)
  have h2 : 0 ≤ ((a : Int) * b) % p := Int.emod_nonneg _ (by omega)
  obtain ⟨h3, h4⟩ := cMul_le ha hb
  go_enter Tryd.func58, Tryd.ntmps58
  go_wp2
  go_ret
  exact ⟨ret_int (mulM_cast p a b).symm, rfl⟩
theorem modp_Neg (p a : Nat) (w : World) (hp : p < 4294967296) (ha : a ≤ p) :
    Calls Tryd.prog 87 #[.int .u32 p, .int .u32 a] w fun e w' => e = .returned (.int .u32 (negM p a : Nat)) ∧ w' = w := by
  by_cases h : a = 0
  · subst h
    go_enter Tryd.func87, Tryd.ntmps87
    go_wp2
    go_ret
    exact ⟨rfl, rfl⟩
  · go_enter Tryd.func87, Tryd.ntmps87
    go_wp2
    go_ret
    exact ⟨ret_int (by unfold negM; rw [if_neg h]; omega), rfl⟩
theorem modp_Sub (p a b : Nat) (w : World) (hp0 : 0 < p) (hp : p < 4294967296) (ha : a < 4294967296) (hb : b ≤ p) :
    Calls Tryd.prog 59 #[.int .u32 p, .int .u32 a, .int .u32 b] w fun e w' => e = .returned (.int .u32 (subM p a b : Nat)) ∧ w' = w := by
  go_enter Tryd.func59, Tryd.ntmps59
  go_wp2_with fail
  refine (modp_Neg p b _ hp hb).mono ?_
  rintro e w' ⟨rfl, rfl⟩
  go_wp2_with fail
  refine (modp_Add p a (negM p b) _ hp0 hp ha (by have := negM_le p b; omega)).mono ?_
  rintro e w' ⟨rfl, rfl⟩
  go_wp2
  go_ret
  exact ⟨rfl, rfl⟩
end Go.Proofs.YtcefhnmhcapccaaDoor
