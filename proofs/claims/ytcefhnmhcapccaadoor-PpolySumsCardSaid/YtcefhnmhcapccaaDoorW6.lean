/- Contracts of modp.Pow, modp.Inv and the reference's inverse. -/
import Derived.Test.YtcefhnmhcapccaaDoorW1
import Derived.Test.YtcefhnmhcapccaaDoorWB
import Derived.Test.YtcefhnmhcapccaaDoorShelf
open Alg
namespace Go.Proofs.YtcefhnmhcapccaaDoor
open Go.RowKit
set_option maxHeartbeats 400000 in
theorem modp_Pow (p a n : Nat) (w : World) (hp0 : 0 < p) (hp : p < 4294967296) (ha : a < 4294967296) (hn : n < 18446744073709551616) :
    Calls Tryd.prog 86 #[.int .u32 p, .int .u32 a, .int .u64 n] w fun e w' => e = .returned (.int .u32 (powM p a n : Nat)) ∧ w' = w := by
  obtain ⟨h64, hz⟩ := bitLen64 n hn
  have HZ := Alg.hid hz
  clear hz
  have HN := Alg.hid hn
  clear hn
  go_enter Tryd.func86, Tryd.ntmps86
  go_wp2_with fail
  refine (Tryd.bits_Len64 (n : Int) _ (by omega) (by have := HN.out; omega)).mono ?_
  rintro e w' ⟨rfl, rfl⟩
  rw [Int.toNat_natCast]
  go_wp2_with fail
  go_loop [7, 8] (fun x i => ∃ k : Nat, i = .int .i64 ((k : Int) - 1) ∧ k ≤ Lib.bitLen n ∧ x = .int .u32 (powM p a (n / 2 ^ k) : Nat)) (fun _ i => (intOf i + 1).toNat)
  case atStart => exact ⟨Lib.bitLen n, rfl, Nat.le_refl _, by rw [HZ.out, powM_zero]; simp⟩
  case round =>
    obtain ⟨k, rfl, hk, rfl⟩ := hrel
    by_cases k0 : k = 0
    · subst k0
      go_wp2
      go_ret
      exact ⟨ret_int (by simp), rfl⟩
    · have hk1 : (0 : Int) ≤ (k : Int) - 1 := by omega
      have hx := powM_lt p a (n / 2 ^ k) hp0
      by_cases hb : n / 2 ^ (k - 1) % 2 = 1
      · have hbit := bit_yes n (k - 1) HN.out hb
        have HE : Hid (n / 2 ^ (k - 1) = 2 * (n / 2 ^ k) + 1) := by have := half_pow n k k0; rw [hb] at this; exact this
        clear hb
        go_wp2_with fail
        refine (modp_Mul p (powM p a (n / 2 ^ k)) (powM p a (n / 2 ^ k)) _ hp0 hp (by omega) (by omega)).mono ?_
        rintro e w' ⟨rfl, rfl⟩
        rw [powM_double]
        have hx2 := powM_lt p a (2 * (n / 2 ^ k)) hp0
        go_wp2_with fail
        refine (modp_Mul p (powM p a (2 * (n / 2 ^ k))) a _ hp0 hp (by omega) (by omega)).mono ?_
        rintro e w' ⟨rfl, rfl⟩
        rw [powM_odd]
        go_wp2
        go_round
        case rel => exact ⟨k - 1, by congr 1; omega, by omega, by rw [HE.out]⟩
        case measure => simp [intOf]; omega
      · have hbit := bit_no n (k - 1) HN.out hb
        have HE : Hid (n / 2 ^ (k - 1) = 2 * (n / 2 ^ k)) := by have := half_pow n k k0; rw [show n / 2 ^ (k - 1) % 2 = 0 by omega] at this; exact this
        clear hb
        go_wp2_with fail
        refine (modp_Mul p (powM p a (n / 2 ^ k)) (powM p a (n / 2 ^ k)) _ hp0 hp (by omega) (by omega)).mono ?_
        rintro e w' ⟨rfl, rfl⟩
        rw [powM_double]
        go_wp2
        go_round
        case rel => exact ⟨k - 1, by congr 1; omega, by omega, by rw [HE.out]⟩
        case measure => simp [intOf]; omega
theorem modp_Inv (p a : Nat) (w : World) (hp0 : 1 < p) (hp : p < 4294967296) (ha : a < 4294967296) (ha0 : a ≠ 0) :
    Calls Tryd.prog 55 #[.int .u32 p, .int .u32 a] w fun e w' => e = .returned (.tuple #[.int .u32 (powM p a (p - 2) : Nat), .int .i64 0]) ∧ w' = w := by
  have hab : ((a : Int) == 0) = false := by simp; omega
  go_enter Tryd.func55, Tryd.ntmps55
  go_wp2_with fail
  have e2 : ((p : Int) - 2) = ((p - 2 : Nat) : Int) := by omega
  rw [e2]
  refine (modp_Pow p a (p - 2) _ (by omega) hp ha (by omega)).mono ?_
  rintro e w' ⟨rfl, rfl⟩
  go_wp2
  go_ret2
  exact ⟨rfl, rfl⟩
theorem modp_Inv0 (p : Nat) (w : World) :
    Calls Tryd.prog 55 #[.int .u32 p, .int .u32 0] w fun e w' => e = .returned (.tuple #[.int .u32 0, .int .i64 3]) ∧ w' = w := by
  go_enter Tryd.func55, Tryd.ntmps55
  go_wp2
  go_ret2
  exact ⟨rfl, rfl⟩
set_option maxHeartbeats 400000 in
theorem ref_inverse (p a : Nat) (w : World) (hp0 : 1 < p) (hp : p < 4294967296) (ha : a < 4294967296) :
    Calls Tryd.prog 61 #[.int .u32 p, .int .u32 a] w fun e w' => e = .returned (.int .u32 (powM p a (p - 2) : Nat)) ∧ w' = w := by
  go_enter Tryd.func61, Tryd.ntmps61
  go_wp2
  go_loop [5, 6, 7] (fun o x n => ∃ m O Y : Nat, n = .int .u32 m ∧ m ≤ p ∧ o = .int .u64 O ∧ x = .int .u64 Y ∧ O < 4294967296 ∧ Y < 4294967296 ∧ Hid (O * Y ^ m % p = powM p a (p - 2))) (fun _ _ n => (intOf n).toNat)
  case atStart => exact ⟨p - 2, 1, a, by congr 1; omega, by omega, rfl, rfl, by omega, ha, by show 1 * a ^ (p - 2) % p = _; rw [Nat.one_mul]; rfl⟩
  case round =>
    obtain ⟨m, O, Y, rfl, hm, rfl, rfl, hO, hY, hE⟩ := hrel
    have hp1 : (1 : Int) ≤ (p : Int) := by omega
    obtain ⟨b1, b2⟩ := cMul_le hO hY
    obtain ⟨b3, b4⟩ := cMul_le hY hY
    by_cases m0 : m = 0
    · subst m0
      have hx : ((O : Int) % (p : Int)) < p := Int.emod_lt_of_pos _ (by omega)
      have hx0 : 0 ≤ ((O : Int) % (p : Int)) := Int.emod_nonneg _ (by omega)
      go_wp2
      go_ret
      exact ⟨ret_int (by rw [← hE.out, Nat.pow_zero, Nat.mul_one]; simp), rfl⟩
    · by_cases hodd : m % 2 = 1
      · go_wp2
        go_round
        case rel =>
          refine ⟨m / 2, mulM p O Y, mulM p Y Y, by simp, by omega, by rw [mulM_cast], by rw [mulM_cast], by have := mulM_lt p O Y (by omega); omega, by have := mulM_lt p Y Y (by omega); omega, ?_⟩
          rw [← hE.out, mulM, mulM, Nat.mod_mul_mod, Nat.mul_mod, ← Nat.pow_mod, ← Nat.mul_mod, ← Nat.pow_two, ← Nat.pow_mul, Nat.mul_assoc, ← Nat.pow_succ', show (2 * (m / 2)).succ = m by omega]
          rfl
        case measure => simp [intOf]; omega
      · go_wp2
        go_round
        case rel =>
          refine ⟨m / 2, O, mulM p Y Y, by simp, by omega, rfl, by rw [mulM_cast], hO, by have := mulM_lt p Y Y (by omega); omega, ?_⟩
          rw [← hE.out, mulM, Nat.mul_mod, ← Nat.pow_mod, ← Nat.mul_mod, ← Nat.pow_two, ← Nat.pow_mul, show 2 * (m / 2) = m by omega]
          rfl
        case measure => simp [intOf]; omega
end Go.Proofs.YtcefhnmhcapccaaDoor
