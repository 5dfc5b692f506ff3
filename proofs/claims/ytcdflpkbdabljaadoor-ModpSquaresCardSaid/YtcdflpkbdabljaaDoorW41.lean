/- Contracts of prime.times and prime.power, at a modulus of 32 bits. -/
import Derived.Test.YtcdflpkbdabljaaDoorW0
import Derived.Test.YtcdflpkbdabljaaDoorE2
import Derived.Test.YtcdflpkbdabljaaDoorShelf
import Derived.IntWalk
import Derived.Shelf.Spec.TrailingZeros
open Alg Go Go.RowKit
namespace Go.Proofs.YtcdflpkbdabljaaDoor
open Go.RowKit
theorem tz64_core (x k idx : Nat) (w : World) (hx0 : ((x : Int) == 0) = false)
    (key : IntKind.u64.wrap (bits BinOp.and IntKind.u64 (x : Int) (IntKind.u64.wrap (-(x : Int))) * 285870213051353865) / 288230376151711744 = (idx : Int))
    (hi : idx < 64) (hk : k < 64) (hcell : w.cell? ⟨1, idx, none⟩ = some (.int .u8 k)) :
    Calls Tryd.prog 81 #[.int .u64 x] w fun e w' => e = .returned (.int .i64 k) ∧ w' = w := by
  go_enter Tryd.func81, Tryd.ntmps81
  go_wp2_with (simp only [key])
  go_ret
  exact ⟨rfl, rfl⟩
theorem bits_TZ64 (x : Nat) (hx0 : x ≠ 0) (hx : x < 18446744073709551616) (w : World) (hT : TabAt 1 Lib.deBruijn64tab w) :
    Calls Tryd.prog 81 #[.int .u64 x] w fun e w' => e = .returned (.int .i64 (Lib.ctz 64 x)) ∧ w' = w := by
  obtain ⟨hlow, hk⟩ := Lib.lowest_bit 64 x hx0 hx
  obtain ⟨hi, htab⟩ := Lib.deBruijn64_at _ hk
  have hcell := hT _ hi
  rw [htab] at hcell
  exact tz64_core x _ _ w (by simp; omega) (tz64_key x _ hx hx0 hlow) hi hk hcell
theorem Div64_0 (lo y : Nat) (hy : 0 < y) (hy2 : y < 18446744073709551616) (hlo : lo < 18446744073709551616) (w : World) :
    Calls Tryd.prog 101 #[.int .u64 0, .int .u64 lo, .int .u64 y] w fun e w' => e = .returned (.tuple #[.int .u64 ((lo / y : Nat) : Int), .int .u64 ((lo % y : Nat) : Int)]) ∧ Below w.heap.size w w' := by
  have h0 : ((y : Int) == 0) = false := by simp; omega
  have hy0 : y ≠ 0 := by omega
  have h1 : ¬ ((y : Int) ≤ 0) := by omega
  have hq : lo / y ≤ lo := Nat.div_le_self _ _
  have e1 : IntKind.u64.wrap ((lo : Int) / (y : Int)) = ((lo / y : Nat) : Int) := by
    rw [← Int.natCast_ediv, IntKind.wrap_u64]
    exact Int.emod_eq_of_lt (Int.natCast_nonneg _) (Int.ofNat_lt.2 (Nat.lt_of_le_of_lt hq hlo))
  have e2 : (lo : Int) % (y : Int) = ((lo % y : Nat) : Int) := by simp
  clear hq
  go_enter Tryd.func101, Tryd.ntmps101
  go_wp2
  go_quiet (fail)
  go_wp2
  go_ret2
  exact ⟨rfl, Alg.below_drewN _ _⟩
theorem prime_times (a b m : Nat) (hm : 0 < m) (hm2 : m < 4294967296) (w : World) :
    Calls Tryd.prog 83 #[.int .u64 a, .int .u64 b, .int .u64 m] w fun e w' => e = .returned (.int .u64 (mulM m a b : Nat)) ∧ Below w.heap.size w w' := by
  have l1 := Nat.mod_lt a hm
  have l2 := Nat.mod_lt b hm
  have l3 : a % m * (b % m) < 18446744073709551616 := by
    have := Nat.mul_le_mul (show a % m ≤ 4294967295 by omega) (show b % m ≤ 4294967295 by omega)
    omega
  have EQ : Hid (a % m * (b % m) % m = mulM m a b) := (Nat.mul_mod a b m).symm
  have e1 : (a : Int) % (m : Int) = ((a % m : Nat) : Int) := by simp
  have e2 : (b : Int) % (m : Int) = ((b % m : Nat) : Int) := by simp
  generalize a % m = A at *
  generalize b % m = B at *
  obtain ⟨C, hC⟩ : ∃ C, C = A * B := ⟨_, rfl⟩
  have q1 : (A : Int) * (B : Int) / 18446744073709551616 = 0 := by
    rw [← Int.natCast_mul]
    exact Int.ediv_eq_zero_of_lt (Int.natCast_nonneg _) (by omega)
  have q2 : (A : Int) * (B : Int) % 18446744073709551616 = (C : Int) := by
    rw [hC, ← Int.natCast_mul]
    exact Int.emod_eq_of_lt (Int.natCast_nonneg _) (by omega)
  have L3 : Hid (C < 18446744073709551616) := by rw [hC]; exact l3
  have hm0 : m ≠ 0 := by omega
  have A1 : Hid (A < 18446744073709551616) := Nat.lt_trans l1 (by omega)
  have B1 : Hid (B < 18446744073709551616) := Nat.lt_trans l2 (by omega)
  have M1 : Hid (m < 18446744073709551616) := Nat.lt_trans hm2 (by omega)
  rw [← hC] at EQ
  clear l3 hC l1 l2
  go_enter Tryd.func83, Tryd.ntmps83
  go_wp2
  go_quiet ((go_at_call 100; exact Calls.quiet_of_same (Tryd.bits_Mul64 A B A1.out B1.out _)))
  go_wp2_with fail
  refine (Div64_0 C m hm M1.out L3.out _).mono ?_
  rintro e w1 ⟨rfl, hb1⟩
  rw [EQ.out]
  go_wp2
  go_ret
  exact ⟨rfl, (Alg.below_drewN _ _).trans (hb1.mono (Nat.le_refl _))⟩
theorem prime_power (a n m : Nat) (hm : 1 < m) (hm2 : m < 4294967296) (hn : n < 4294967296) (w : World) :
    Calls Tryd.prog 82 #[.int .u64 a, .int .u64 n, .int .u64 m] w fun e w' => e = .returned (.int .u64 (powM m a n : Nat)) ∧ Below w.heap.size w w' := by
  have h1 : (1 : Int) % (m : Int) = 1 := Int.emod_eq_of_lt (by omega) (by omega)
  have h0 : ((m : Int) == 0) = false := by simp; omega
  go_enter Tryd.func82, Tryd.ntmps82
  go_wp2
  go_loopw [0, 1, 7] (fun x i o wr => ∃ k X O : Nat, i = .int .u64 k ∧ k ≤ n ∧ x = .int .u64 X ∧ o = .int .u64 O ∧ X < m ∧ O < m ∧ Hid (O * X ^ k % m = a ^ n % m) ∧ Below w.heap.size w wr) (fun _ i _ _ => (intOf i).toNat)
  case atStart => exact ⟨n, a % m, 1, rfl, Nat.le_refl _, by simp, by rw [h1]; rfl, Nat.mod_lt _ (by omega), hm, by show _ = _; rw [Nat.one_mul, ← Nat.pow_mod], Below.refl _ _⟩
  case round =>
    clear h1
    obtain ⟨k, X, O, rfl, hk, rfl, rfl, hX, hO, hE, hbw⟩ := hrel
    by_cases k0 : k = 0
    · subst k0
      have HE : Hid (O = a ^ n % m) := by have := hE.out; rw [Nat.pow_zero, Nat.mul_one, Nat.mod_eq_of_lt hO] at this; exact this
      go_wp2
      go_ret
      exact ⟨ret_int (by rw [HE.out]; rfl), hbw⟩
    · have hk0 : 0 < k := by omega
      have HB := Alg.hid hbw
      clear hbw
      by_cases hodd : k % 2 = 1
      · have hod : (k : Int) % 2 = 1 := by omega
        have hE2 : Hid ((O * X % m) * (X * X % m) ^ (k / 2) % m = a ^ n % m) := by
          show _ = _
          rw [← hE.out, Nat.mod_mul_mod, Nat.mul_mod, ← Nat.pow_mod, ← Nat.mul_mod, ← Nat.pow_two, ← Nat.pow_mul, Nat.mul_assoc, ← Nat.pow_succ', show (2 * (k / 2)).succ = k by omega]
        clear hodd
        go_wp2_with fail
        refine (prime_times O X m (by omega) hm2 _).mono ?_
        rintro e w1 ⟨rfl, hb1⟩
        go_wp2_with fail
        refine (prime_times X X m (by omega) hm2 _).mono ?_
        rintro e w2 ⟨rfl, hb2⟩
        go_wp2
        go_roundw
        case rel => exact ⟨k / 2, mulM m X X, mulM m O X, by simp, by omega, rfl, rfl, Nat.mod_lt _ (by omega), Nat.mod_lt _ (by omega), hE2, bl (bl HB.out hb1 HB.out.size) hb2 (bl HB.out hb1 HB.out.size).size⟩
        case measure => simp [intOf]; omega
      · have hod : (k : Int) % 2 = 0 := by omega
        have hE2 : Hid (O * (X * X % m) ^ (k / 2) % m = a ^ n % m) := by
          show _ = _
          rw [← hE.out, Nat.mul_mod, ← Nat.pow_mod, ← Nat.mul_mod, ← Nat.pow_two, ← Nat.pow_mul, show 2 * (k / 2) = k by omega]
        clear hodd
        go_wp2_with fail
        refine (prime_times X X m (by omega) hm2 _).mono ?_
        rintro e w2 ⟨rfl, hb2⟩
        go_wp2
        go_roundw
        case rel => exact ⟨k / 2, mulM m X X, O, by simp, by omega, rfl, rfl, Nat.mod_lt _ (by omega), hO, hE2, bl HB.out hb2 HB.out.size⟩
        case measure => simp [intOf]; omega
end Go.Proofs.YtcdflpkbdabljaaDoor
