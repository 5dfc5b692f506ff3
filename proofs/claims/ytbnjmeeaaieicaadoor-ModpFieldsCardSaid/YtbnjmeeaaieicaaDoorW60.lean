/- Contracts of the reference's numbers modulo p: sum, opposite, difference, product, power, inverse. -/
import Derived.Test.YtbnjmeeaaieicaaDoorE2
import Derived.Test.YtbnjmeeaaieicaaDoorE0
import Derived.IntWalk
open Alg Go Go.RowKit
namespace Alg
theorem negR {p a : Nat} (h : a ≤ p) : ((p : Int) - (a : Int)) % (p : Int) = ((negM p a : Nat) : Int) := by
  unfold negM
  by_cases e : a = 0
  · subst e; rw [if_pos rfl]; simp
  · rw [if_neg e, Int.emod_eq_of_lt (by omega) (by omega)]; omega
end Alg
namespace Go.Proofs.YtbnjmeeaaieicaaDoor
open Go.RowKit
theorem ref07_Add (p a b : Nat) (w : World) (hp0 : 0 < p) (hp : p < 4294967296) (ha : a < 4294967296) (hb : b < 4294967296) :
    Calls Tryd.prog 23 #[.int .u32 p, .int .u32 a, .int .u32 b] w fun e w' => e = .returned (.int .u32 (addM p a b : Nat)) ∧ w' = w := by
  have h1 : ((a : Int) + b) % p < p := Int.emod_lt_of_pos _ (by omega)
  have h2 : 0 ≤ ((a : Int) + b) % p := Int.emod_nonneg _ (by omega)
  go_enter Tryd.func23, Tryd.ntmps23
  go_wp2
  go_ret
  exact ⟨ret_int (addM_cast p a b).symm, rfl⟩
theorem ref07_Mul (p a b : Nat) (w : World) (hp0 : 0 < p) (hp : p < 4294967296) (ha : a < 4294967296) (hb : b < 4294967296) :
    Calls Tryd.prog 27 #[.int .u32 p, .int .u32 a, .int .u32 b] w fun e w' => e = .returned (.int .u32 (mulM p a b : Nat)) ∧ w' = w := by
  have h1 : ((a : Int) * b) % p < p := Int.emod_lt_of_pos _ (by omega)
  have h2 : 0 ≤ ((a : Int) * b) % p := Int.emod_nonneg _ (by omega)
  obtain ⟨h3, h4⟩ := cMul_le ha hb
  go_enter Tryd.func27, Tryd.ntmps27
  go_wp2
  go_ret
  exact ⟨ret_int (mulM_cast p a b).symm, rfl⟩
theorem ref07_Neg (p a : Nat) (w : World) (hp0 : 0 < p) (hp : p < 4294967296) (ha : a ≤ p) :
    Calls Tryd.prog 29 #[.int .u32 p, .int .u32 a] w fun e w' => e = .returned (.int .u32 (negM p a : Nat)) ∧ w' = w := by
  go_enter Tryd.func29, Tryd.ntmps29
  go_wp2
  go_ret
  exact ⟨ret_int (negR ha), rfl⟩
theorem ref07_Sub (p a b : Nat) (w : World) (hp0 : 0 < p) (hp : p < 4294967296) (ha : a < 4294967296) (hb : b ≤ p) :
    Calls Tryd.prog 25 #[.int .u32 p, .int .u32 a, .int .u32 b] w fun e w' => e = .returned (.int .u32 (subM p a b : Nat)) ∧ w' = w := by
  go_enter Tryd.func25, Tryd.ntmps25
  go_wp2_with fail
  refine (ref07_Neg p b _ hp0 hp hb).mono ?_
  rintro e w' ⟨rfl, rfl⟩
  go_wp2_with fail
  refine (ref07_Add p a (negM p b) _ hp0 hp ha (by have := negM_le p b; omega)).mono ?_
  rintro e w' ⟨rfl, rfl⟩
  go_wp2
  go_ret
  exact ⟨rfl, rfl⟩
theorem ref07_Pow (p a n : Nat) (w : World) (hp1 : 1 < p) (hp : p < 4294967296) (ha : a < 4294967296) (hn : n < 18446744073709551616) :
    Calls Tryd.prog 31 #[.int .u32 p, .int .u32 a, .int .u64 n] w fun e w' => e = .returned (.int .u32 (powM p a n : Nat)) ∧ w' = w := by
  have h1 : (1 : Int) % (p : Int) = 1 := Int.emod_eq_of_lt (by omega) (by omega)
  have HN := Alg.hid hn
  clear hn
  go_enter Tryd.func31, Tryd.ntmps31
  go_wp2
  go_loop [1, 2, 7] (fun x i o => ∃ k X O : Nat, i = .int .u64 k ∧ k ≤ n ∧ x = .int .u32 X ∧ o = .int .u32 O ∧ X < 4294967296 ∧ O < p ∧ Hid (O * X ^ k % p = a ^ n % p)) (fun _ i _ => (intOf i).toNat)
  case atStart => exact ⟨n, a, 1, rfl, Nat.le_refl _, rfl, by first | rfl | (rw [h1]; rfl), ha, hp1, by show _ = _; rw [Nat.one_mul]⟩
  case round =>
    clear h1
    obtain ⟨k, X, O, rfl, hk, rfl, rfl, hX, hO, hE⟩ := hrel
    by_cases k0 : k = 0
    · subst k0
      have HE : Hid (O = a ^ n % p) := by have := hE.out; rw [Nat.pow_zero, Nat.mul_one, Nat.mod_eq_of_lt hO] at this; exact this
      go_wp2
      go_ret
      exact ⟨ret_int (by rw [HE.out]; rfl), rfl⟩
    · have hk0 : 0 < k := by omega
      have hkn : (k : Int) < 18446744073709551616 := by have := HN.out; omega
      by_cases hodd : k % 2 = 1
      · have hod : (k : Int) % 2 = 1 := by omega
        have hE2 : Hid ((O * X % p) * (X * X % p) ^ (k / 2) % p = a ^ n % p) := by
          show _ = _
          rw [← hE.out, Nat.mod_mul_mod, Nat.mul_mod, ← Nat.pow_mod, ← Nat.mul_mod, ← Nat.pow_two, ← Nat.pow_mul, Nat.mul_assoc, ← Nat.pow_succ', show (2 * (k / 2)).succ = k by omega]
        clear hodd
        go_wp2_with fail
        refine (ref07_Mul p O X _ (by omega) hp (by omega) hX).mono ?_
        rintro e w' ⟨rfl, rfl⟩
        have hO2 := mulM_lt p O X (by omega)
        go_wp2_with fail
        refine (ref07_Mul p X X _ (by omega) hp hX hX).mono ?_
        rintro e w' ⟨rfl, rfl⟩
        have hX2 := mulM_lt p X X (by omega)
        go_wp2
        go_round
        case rel => exact ⟨k / 2, mulM p X X, mulM p O X, by go_num, by omega, rfl, rfl, by omega, hO2, hE2⟩
        case measure => simp [intOf]; omega
      · have hod : ((k : Int) % 2 == 1) = false := by
          have : (k : Int) % 2 = 0 := by omega
          rw [this]; rfl
        have hE2 : Hid (O * (X * X % p) ^ (k / 2) % p = a ^ n % p) := by
          show _ = _
          rw [← hE.out, Nat.mul_mod, ← Nat.pow_mod, ← Nat.mul_mod, ← Nat.pow_two, ← Nat.pow_mul, show 2 * (k / 2) = k by omega]
        clear hodd
        go_wp2_with fail
        refine (ref07_Mul p X X _ (by omega) hp hX hX).mono ?_
        rintro e w' ⟨rfl, rfl⟩
        have hX2 := mulM_lt p X X (by omega)
        go_wp2
        go_round
        case rel => exact ⟨k / 2, mulM p X X, O, by go_num, by omega, rfl, rfl, by omega, hO, hE2⟩
        case measure => simp [intOf]; omega
theorem ref07_Inv (p a : Nat) (w : World) (hp0 : 1 < p) (hp : p < 4294967296) (ha : a < 4294967296) (ha0 : a ≠ 0) :
    Calls Tryd.prog 33 #[.int .u32 p, .int .u32 a] w fun e w' => e = .returned (.tuple #[.int .u32 (powM p a (p - 2) : Nat), .int .i64 0]) ∧ w' = w := by
  have hab : ((a : Int) == 0) = false := by simp; omega
  go_enter Tryd.func33, Tryd.ntmps33
  go_wp2_with fail
  have e2 : ((p : Int) - 2) = ((p - 2 : Nat) : Int) := by omega
  rw [e2]
  refine (ref07_Pow p a (p - 2) _ hp0 hp ha (by omega)).mono ?_
  rintro e w' ⟨rfl, rfl⟩
  go_wp2
  go_ret2
  exact ⟨rfl, rfl⟩
theorem ref07_Inv0 (p : Nat) (w : World) :
    Calls Tryd.prog 33 #[.int .u32 p, .int .u32 0] w fun e w' => e = .returned (.tuple #[.int .u32 0, .int .i64 3]) ∧ w' = w := by
  go_enter Tryd.func33, Tryd.ntmps33
  go_wp2
  go_ret2
  exact ⟨rfl, rfl⟩
end Go.Proofs.YtbnjmeeaaieicaaDoor
