/- Below 2^31 a number is a prime just if no base divides it and it passes at each base: in plain words. Contracts of prime.times and prime.power, at a modulus of 32 bits. Contracts of prime.Is (below 2^31) and modp.Field (at each number). -/
import Derived.Test.YtbnjmeeaaieicaaDoorP1
import Derived.Test.YtbnjmeeaaieicaaDoorKz
import Derived.Lib.TrailingZeros
import Derived.Test.YtbnjmeeaaieicaaDoorW0
import Derived.Test.YtbnjmeeaaieicaaDoorE2
import Derived.Test.YtbnjmeeaaieicaaDoorShelf
import Derived.IntWalk
import Derived.Shelf.Spec.TrailingZeros
import Derived.Test.YtbnjmeeaaieicaaDoorE1
import Derived.WalkMore
import Derived.Scope
import Derived.Deep.LoopGhost
section
namespace Alg
open MR
/-- it passes at b, where n - 1 = 2^s d -/
def PassAt (b n s d : Nat) : Prop := b ^ d % n = 1 ∨ ∃ r, r < s ∧ b ^ (d * 2 ^ r) % n = n - 1
/-- the base number k -/
def bs (k : Nat) : Nat := bases.getD k 0
theorem bs_mem : ∀ k, k < 12 → bs k ∈ bases := by decide
theorem bs_all {P : Nat → Prop} (h : ∀ k, k < 12 → P (bs k)) : ∀ b, b ∈ bases → P b := fun b hb => by
  obtain ⟨k, hk, e⟩ := List.mem_iff_getElem.1 hb
  have hk' : k < 12 := hk
  have := h k hk'
  unfold bs at this
  rw [List.getD_eq_getElem?_getD, List.getElem?_eq_getElem hk] at this
  rw [← e]; exact this
theorem bs_lt : ∀ k, k < 12 → 2 ≤ bs k ∧ bs k ≤ 37 := by decide
theorem base_prime {b : Nat} (hb : b ∈ bases) : IsPr b := by
  have h : ∀ b, b ∈ bases → 2 ≤ b ∧ b ≤ 37 ∧ ∀ d, d < 7 → 2 ≤ d → d * d ≤ b → b % d ≠ 0 := by decide
  obtain ⟨h1, h2, h3⟩ := h b hb
  refine (isPr_iff b).2 ⟨h1, fun d h4 h5 => ?_⟩
  rcases Nat.lt_or_ge d 7 with h6 | h6
  · exact h3 d h6 h4 h5
  · have := Nat.mul_le_mul h6 h6; omega
theorem is_base {n b : Nat} (hb : b ∈ bases) (hd : n % b = 0) : IsPr n ↔ n = b := by
  constructor
  · intro hn
    have h1 := (base_prime hb).1
    rcases hn.2 b (Nat.dvd_of_mod_eq_zero hd) with h | h
    · omega
    · exact h.symm
  · rintro rfl; exact base_prime hb
theorem cop_small {n : Nat} (h : ∀ b, b ∈ bases → n % b ≠ 0) : Nat.gcd n small = 1 := by
  refine Classical.byContradiction fun hg => ?_
  have hs : 0 < Nat.gcd n small := Nat.gcd_pos_of_pos_right _ (by decide)
  obtain ⟨q, hq, hqd, _⟩ := minFac_ex (Nat.gcd n small) (by omega)
  have h1 : q ∣ bases.foldl (· * ·) 1 := Nat.dvd_trans hqd (Nat.gcd_dvd_right _ _)
  obtain ⟨a, ha, hqa⟩ := hq.dvd_prod _ h1
  rcases (base_prime ha).2 q hqa with h2 | h2
  · have := hq.1; omega
  · subst h2
    exact h q ha (Nat.mod_eq_zero_of_dvd (Nat.dvd_trans hqd (Nat.gcd_dvd_left _ _)))
theorem pass_is {n s d : Nat} (h2 : 2 ≤ n) (hlt : n < 2147483648) (hnd : ∀ k, k < 12 → n % bs k ≠ 0) (e : n - 1 = 2 ^ s * d) (ho : d % 2 = 1) (hp : ∀ k, k < 12 → PassAt (bs k) n s d) : IsPr n :=
  pass_prime checks ⟨h2, hlt, cop_small (bs_all hnd), fun b hb => ⟨s, d, e, ho, bs_all (P := fun b => PassAt b n s d) hp b hb⟩⟩
theorem is_pass {n s d k : Nat} (hn : IsPr n) (hk : n % bs k ≠ 0) (hkl : k < 12) (e : n - 1 = 2 ^ s * d) : PassAt (bs k) n s d :=
  spr_of_prime hn (fun hd => by
    rcases (base_prime (bs_mem k hkl)).2 n hd with h | h
    · have := hn.1; omega
    · exact hk (by rw [← h]; exact Nat.mod_self n)) e
theorem ctz_split {n : Nat} (h : 0 < n) (hn : n < 4294967296) : ∃ s d, Go.Lib.ctz 64 n = s ∧ s < 64 ∧ n = 2 ^ s * d ∧ d % 2 = 1 ∧ d = n / 2 ^ s := by
  obtain ⟨m, hm, hs⟩ := Go.Lib.ctzFrom_spec 64 n h (by omega)
  refine ⟨_, 2 * m + 1, rfl, ?_, ?_, by omega, ?_⟩
  · unfold Go.Lib.ctz; rw [if_neg (by omega)]; exact hs
  · unfold Go.Lib.ctz; rw [if_neg (by omega)]; exact hm
  · unfold Go.Lib.ctz; rw [if_neg (by omega)]
    exact (Nat.div_eq_of_eq_mul_right (Nat.pow_pos (by omega)) hm).symm
end Alg
end
section
open Alg Go Go.RowKit
namespace Go.Proofs.YtbnjmeeaaieicaaDoor
open Go.RowKit
theorem tz64_core (x k idx : Nat) (w : World) (hx0 : ((x : Int) == 0) = false)
    (key : IntKind.u64.wrap (bits BinOp.and IntKind.u64 (x : Int) (IntKind.u64.wrap (-(x : Int))) * 285870213051353865) / 288230376151711744 = (idx : Int))
    (hi : idx < 64) (hk : k < 64) (hcell : w.cell? ⟨1, idx, none⟩ = some (.int .u8 k)) :
    Calls Tryd.prog 103 #[.int .u64 x] w fun e w' => e = .returned (.int .i64 k) ∧ w' = w := by
  go_enter Tryd.func103, Tryd.ntmps103
  go_wp2_with (simp only [key])
  go_ret
  exact ⟨rfl, rfl⟩
theorem bits_TZ64 (x : Nat) (hx0 : x ≠ 0) (hx : x < 18446744073709551616) (w : World) (hT : TabAt 1 Lib.deBruijn64tab w) :
    Calls Tryd.prog 103 #[.int .u64 x] w fun e w' => e = .returned (.int .i64 (Lib.ctz 64 x)) ∧ w' = w := by
  obtain ⟨hlow, hk⟩ := Lib.lowest_bit 64 x hx0 hx
  obtain ⟨hi, htab⟩ := Lib.deBruijn64_at _ hk
  have hcell := hT _ hi
  rw [htab] at hcell
  exact tz64_core x _ _ w (by simp; omega) (tz64_key x _ hx hx0 hlow) hi hk hcell
theorem Div64_0 (lo y : Nat) (hy : 0 < y) (hy2 : y < 18446744073709551616) (hlo : lo < 18446744073709551616) (w : World) :
    Calls Tryd.prog 122 #[.int .u64 0, .int .u64 lo, .int .u64 y] w fun e w' => e = .returned (.tuple #[.int .u64 ((lo / y : Nat) : Int), .int .u64 ((lo % y : Nat) : Int)]) ∧ Below w.heap.size w w' := by
  have h0 : ((y : Int) == 0) = false := by simp; omega
  have hy0 : y ≠ 0 := by omega
  have h1 : ¬ ((y : Int) ≤ 0) := by omega
  have hq : lo / y ≤ lo := Nat.div_le_self _ _
  have e1 : IntKind.u64.wrap ((lo : Int) / (y : Int)) = ((lo / y : Nat) : Int) := by
    rw [← Int.natCast_ediv, IntKind.wrap_u64]
    exact Int.emod_eq_of_lt (Int.natCast_nonneg _) (Int.ofNat_lt.2 (Nat.lt_of_le_of_lt hq hlo))
  have e2 : (lo : Int) % (y : Int) = ((lo % y : Nat) : Int) := by simp
  clear hq
  go_enter Tryd.func122, Tryd.ntmps122
  go_wp2
  go_quiet (fail)
  go_wp2
  go_ret2
  exact ⟨rfl, Alg.below_drewN _ _⟩
theorem prime_times (a b m : Nat) (hm : 0 < m) (hm2 : m < 4294967296) (w : World) :
    Calls Tryd.prog 105 #[.int .u64 a, .int .u64 b, .int .u64 m] w fun e w' => e = .returned (.int .u64 (mulM m a b : Nat)) ∧ Below w.heap.size w w' := by
  have l1 := Nat.mod_lt a hm
  have l2 := Nat.mod_lt b hm
  have l3 : a % m * (b % m) < 18446744073709551616 := by
    have := Nat.mul_le_mul (show a % m ≤ 4294967295 by omega) (show b % m ≤ 4294967295 by omega)
    omega
  have EQ : Hid (a % m * (b % m) % m = mulM m a b) := (Nat.mul_mod a b m).symm
  have e1 : (a : Int) % (m : Int) = ((a % m : Nat) : Int) := by simp
  have e2 : (b : Int) % (m : Int) = ((b % m : Nat) : Int) := by simp
  generalize a % m = A at *
  generalize b % m = B at *
  obtain ⟨C, hC⟩ : ∃ C, C = A * B := ⟨_, rfl⟩
  have q1 : (A : Int) * (B : Int) / 18446744073709551616 = 0 := by
    rw [← Int.natCast_mul]
    exact Int.ediv_eq_zero_of_lt (Int.natCast_nonneg _) (by omega)
  have q2 : (A : Int) * (B : Int) % 18446744073709551616 = (C : Int) := by
    rw [hC, ← Int.natCast_mul]
    exact Int.emod_eq_of_lt (Int.natCast_nonneg _) (by omega)
  have L3 : Hid (C < 18446744073709551616) := by rw [hC]; exact l3
  have hm0 : m ≠ 0 := by omega
  have A1 : Hid (A < 18446744073709551616) := Nat.lt_trans l1 (by omega)
  have B1 : Hid (B < 18446744073709551616) := Nat.lt_trans l2 (by omega)
  have M1 : Hid (m < 18446744073709551616) := Nat.lt_trans hm2 (by omega)
  rw [← hC] at EQ
  clear l3 hC l1 l2
  go_enter Tryd.func105, Tryd.ntmps105
  go_wp2
  go_quiet ((go_at_call 121; exact Calls.quiet_of_same (Tryd.bits_Mul64 A B A1.out B1.out _)))
  go_wp2_with fail
  refine (Div64_0 C m hm M1.out L3.out _).mono ?_
  rintro e w1 ⟨rfl, hb1⟩
  rw [EQ.out]
  go_wp2
  go_ret
  exact ⟨rfl, (Alg.below_drewN _ _).trans (hb1.mono (Nat.le_refl _))⟩
theorem prime_power (a n m : Nat) (hm : 1 < m) (hm2 : m < 4294967296) (hn : n < 4294967296) (w : World) :
    Calls Tryd.prog 104 #[.int .u64 a, .int .u64 n, .int .u64 m] w fun e w' => e = .returned (.int .u64 (powM m a n : Nat)) ∧ Below w.heap.size w w' := by
  have h1 : (1 : Int) % (m : Int) = 1 := Int.emod_eq_of_lt (by omega) (by omega)
  have h0 : ((m : Int) == 0) = false := by simp; omega
  go_enter Tryd.func104, Tryd.ntmps104
  go_wp2
  go_loopw [0, 1, 7] (fun x i o wr => ∃ k X O : Nat, i = .int .u64 k ∧ k ≤ n ∧ x = .int .u64 X ∧ o = .int .u64 O ∧ X < m ∧ O < m ∧ Hid (O * X ^ k % m = a ^ n % m) ∧ Below w.heap.size w wr) (fun _ i _ _ => (intOf i).toNat)
  case atStart => exact ⟨n, a % m, 1, rfl, Nat.le_refl _, by simp, by rw [h1]; rfl, Nat.mod_lt _ (by omega), hm, by show _ = _; rw [Nat.one_mul, ← Nat.pow_mod], Below.refl _ _⟩
  case round =>
    clear h1
    obtain ⟨k, X, O, rfl, hk, rfl, rfl, hX, hO, hE, hbw⟩ := hrel
    by_cases k0 : k = 0
    · subst k0
      have HE : Hid (O = a ^ n % m) := by have := hE.out; rw [Nat.pow_zero, Nat.mul_one, Nat.mod_eq_of_lt hO] at this; exact this
      go_wp2
      go_ret
      exact ⟨ret_int (by rw [HE.out]; rfl), hbw⟩
    · have hk0 : 0 < k := by omega
      have HB := Alg.hid hbw
      clear hbw
      by_cases hodd : k % 2 = 1
      · have hod : (k : Int) % 2 = 1 := by omega
        have hE2 : Hid ((O * X % m) * (X * X % m) ^ (k / 2) % m = a ^ n % m) := by
          show _ = _
          rw [← hE.out, Nat.mod_mul_mod, Nat.mul_mod, ← Nat.pow_mod, ← Nat.mul_mod, ← Nat.pow_two, ← Nat.pow_mul, Nat.mul_assoc, ← Nat.pow_succ', show (2 * (k / 2)).succ = k by omega]
        clear hodd
        go_wp2_with fail
        refine (prime_times O X m (by omega) hm2 _).mono ?_
        rintro e w1 ⟨rfl, hb1⟩
        go_wp2_with fail
        refine (prime_times X X m (by omega) hm2 _).mono ?_
        rintro e w2 ⟨rfl, hb2⟩
        go_wp2
        go_roundw
        case rel => exact ⟨k / 2, mulM m X X, mulM m O X, by simp, by omega, rfl, rfl, Nat.mod_lt _ (by omega), Nat.mod_lt _ (by omega), hE2, bl (bl HB.out hb1 HB.out.size) hb2 (bl HB.out hb1 HB.out.size).size⟩
        case measure => simp [intOf]; omega
      · have hod : (k : Int) % 2 = 0 := by omega
        have hE2 : Hid (O * (X * X % m) ^ (k / 2) % m = a ^ n % m) := by
          show _ = _
          rw [← hE.out, Nat.mul_mod, ← Nat.pow_mod, ← Nat.mul_mod, ← Nat.pow_two, ← Nat.pow_mul, show 2 * (k / 2) = k by omega]
        clear hodd
        go_wp2_with fail
        refine (prime_times X X m (by omega) hm2 _).mono ?_
        rintro e w2 ⟨rfl, hb2⟩
        go_wp2
        go_roundw
        case rel => exact ⟨k / 2, mulM m X X, O, by simp, by omega, rfl, rfl, Nat.mod_lt _ (by omega), hO, hE2, bl HB.out hb2 HB.out.size⟩
        case measure => simp [intOf]; omega
end Go.Proofs.YtbnjmeeaaieicaaDoor
end
section
open Alg Go Go.RowKit
namespace Alg
open Classical in
/-- is it a prime? -/
noncomputable def isB (n : Nat) : Bool := decide (IsPr n)
theorem isB_yes {n : Nat} (h : IsPr n) : isB n = true := by simp [isB, h]
theorem isB_no {n : Nat} (h : ¬ IsPr n) : isB n = false := by simp [isB, h]
theorem int_eq_yes {a b : Int} (h : a = b) : (a == b) = true := by simp [h]
theorem int_eq_no {a b : Int} (h : a ≠ b) : (a == b) = false := by simp [h]
end Alg
namespace Go.Proofs.YtbnjmeeaaieicaaDoor
open Go.RowKit
theorem bases_at (k : Nat) (hk : k < 12) : ∀ w, (Instr.index 103 (.agg #[.int .u64 2, .int .u64 3, .int .u64 5, .int .u64 7, .int .u64 11, .int .u64 13, .int .u64 17, .int .u64 19, .int .u64 23, .int .u64 29, .int .u64 31, .int .u64 37]) (.int .i64 (k : Int))).run Tryd.prog w = .ok (.int .u64 (bs k : Nat)) w := by
  intro w
  have i0 : (Instr.index 103 (.agg #[.int .u64 2, .int .u64 3, .int .u64 5, .int .u64 7, .int .u64 11, .int .u64 13, .int .u64 17, .int .u64 19, .int .u64 23, .int .u64 29, .int .u64 31, .int .u64 37]) (.int .i64 ((0 : Nat) : Int))).run Tryd.prog w = .ok (.int .u64 (bs 0 : Nat)) w := by kernel_rfl
  have i1 : (Instr.index 103 (.agg #[.int .u64 2, .int .u64 3, .int .u64 5, .int .u64 7, .int .u64 11, .int .u64 13, .int .u64 17, .int .u64 19, .int .u64 23, .int .u64 29, .int .u64 31, .int .u64 37]) (.int .i64 ((1 : Nat) : Int))).run Tryd.prog w = .ok (.int .u64 (bs 1 : Nat)) w := by kernel_rfl
  have i2 : (Instr.index 103 (.agg #[.int .u64 2, .int .u64 3, .int .u64 5, .int .u64 7, .int .u64 11, .int .u64 13, .int .u64 17, .int .u64 19, .int .u64 23, .int .u64 29, .int .u64 31, .int .u64 37]) (.int .i64 ((2 : Nat) : Int))).run Tryd.prog w = .ok (.int .u64 (bs 2 : Nat)) w := by kernel_rfl
  have i3 : (Instr.index 103 (.agg #[.int .u64 2, .int .u64 3, .int .u64 5, .int .u64 7, .int .u64 11, .int .u64 13, .int .u64 17, .int .u64 19, .int .u64 23, .int .u64 29, .int .u64 31, .int .u64 37]) (.int .i64 ((3 : Nat) : Int))).run Tryd.prog w = .ok (.int .u64 (bs 3 : Nat)) w := by kernel_rfl
  have i4 : (Instr.index 103 (.agg #[.int .u64 2, .int .u64 3, .int .u64 5, .int .u64 7, .int .u64 11, .int .u64 13, .int .u64 17, .int .u64 19, .int .u64 23, .int .u64 29, .int .u64 31, .int .u64 37]) (.int .i64 ((4 : Nat) : Int))).run Tryd.prog w = .ok (.int .u64 (bs 4 : Nat)) w := by kernel_rfl
  have i5 : (Instr.index 103 (.agg #[.int .u64 2, .int .u64 3, .int .u64 5, .int .u64 7, .int .u64 11, .int .u64 13, .int .u64 17, .int .u64 19, .int .u64 23, .int .u64 29, .int .u64 31, .int .u64 37]) (.int .i64 ((5 : Nat) : Int))).run Tryd.prog w = .ok (.int .u64 (bs 5 : Nat)) w := by kernel_rfl
  have i6 : (Instr.index 103 (.agg #[.int .u64 2, .int .u64 3, .int .u64 5, .int .u64 7, .int .u64 11, .int .u64 13, .int .u64 17, .int .u64 19, .int .u64 23, .int .u64 29, .int .u64 31, .int .u64 37]) (.int .i64 ((6 : Nat) : Int))).run Tryd.prog w = .ok (.int .u64 (bs 6 : Nat)) w := by kernel_rfl
  have i7 : (Instr.index 103 (.agg #[.int .u64 2, .int .u64 3, .int .u64 5, .int .u64 7, .int .u64 11, .int .u64 13, .int .u64 17, .int .u64 19, .int .u64 23, .int .u64 29, .int .u64 31, .int .u64 37]) (.int .i64 ((7 : Nat) : Int))).run Tryd.prog w = .ok (.int .u64 (bs 7 : Nat)) w := by kernel_rfl
  have i8 : (Instr.index 103 (.agg #[.int .u64 2, .int .u64 3, .int .u64 5, .int .u64 7, .int .u64 11, .int .u64 13, .int .u64 17, .int .u64 19, .int .u64 23, .int .u64 29, .int .u64 31, .int .u64 37]) (.int .i64 ((8 : Nat) : Int))).run Tryd.prog w = .ok (.int .u64 (bs 8 : Nat)) w := by kernel_rfl
  have i9 : (Instr.index 103 (.agg #[.int .u64 2, .int .u64 3, .int .u64 5, .int .u64 7, .int .u64 11, .int .u64 13, .int .u64 17, .int .u64 19, .int .u64 23, .int .u64 29, .int .u64 31, .int .u64 37]) (.int .i64 ((9 : Nat) : Int))).run Tryd.prog w = .ok (.int .u64 (bs 9 : Nat)) w := by kernel_rfl
  have i10 : (Instr.index 103 (.agg #[.int .u64 2, .int .u64 3, .int .u64 5, .int .u64 7, .int .u64 11, .int .u64 13, .int .u64 17, .int .u64 19, .int .u64 23, .int .u64 29, .int .u64 31, .int .u64 37]) (.int .i64 ((10 : Nat) : Int))).run Tryd.prog w = .ok (.int .u64 (bs 10 : Nat)) w := by kernel_rfl
  have i11 : (Instr.index 103 (.agg #[.int .u64 2, .int .u64 3, .int .u64 5, .int .u64 7, .int .u64 11, .int .u64 13, .int .u64 17, .int .u64 19, .int .u64 23, .int .u64 29, .int .u64 31, .int .u64 37]) (.int .i64 ((11 : Nat) : Int))).run Tryd.prog w = .ok (.int .u64 (bs 11 : Nat)) w := by kernel_rfl
  match k, hk with
  | 0, _ => exact i0
  | 1, _ => exact i1
  | 2, _ => exact i2
  | 3, _ => exact i3
  | 4, _ => exact i4
  | 5, _ => exact i5
  | 6, _ => exact i6
  | 7, _ => exact i7
  | 8, _ => exact i8
  | 9, _ => exact i9
  | 10, _ => exact i10
  | 11, _ => exact i11
theorem prime_Is_lo (n : Nat) (hn : n < 2) (w : World) :
    Calls Tryd.prog 69 #[.int .u64 n] w fun e w' => e = .returned (.bool (isB n)) ∧ Below w.heap.size w w' := by
  rw [isB_no (fun h => by have := h.1; omega)]
  go_enter Tryd.func69, Tryd.ntmps69
  go_wp2
  refine wp_scope_straight ?_
  go_wp2
  go_ret
  exact ⟨rfl, Below.refl _ _⟩
set_option maxRecDepth 100000 in
set_option maxHeartbeats 1000000 in
theorem prime_Is (n : Nat) (hn : n < 2147483648) (w : World) (hT : TabAt 1 Lib.deBruijn64tab w) :
    Calls Tryd.prog 69 #[.int .u64 n] w fun e w' => e = .returned (.bool (isB n)) ∧ Below w.heap.size w w' := by
  by_cases hn2 : n < 2
  · exact prime_Is_lo n hn2 w
  have hbx := boxes1 w #[.int .u64 2, .int .u64 3, .int .u64 5, .int .u64 7, .int .u64 11, .int .u64 13, .int .u64 17, .int .u64 19, .int .u64 23, .int .u64 29, .int .u64 31, .int .u64 37] 103
  have hB0 := hbx.below
  clear hbx
  have HT := Alg.hid hT
  clear hT
  have g1 : decide ((n : Int) < 2) = false := decide_eq_false (by omega)
  have g2 : decide ((9223372036854775808 : Int) ≤ (n : Int)) = false := decide_eq_false (by omega)
  go_enter Tryd.func69, Tryd.ntmps69
  go_wp2
  go_step3
  go_wp2
  go_loop [19] (fun v => ∃ k : Nat, v = .int .i64 k ∧ k ≤ 12 ∧ Hid (∀ j, j < k → n % bs j ≠ 0)) (fun v => 12 - (intOf v).toNat)
  case atStart => exact ⟨0, rfl, by omega, fun j hj => by omega⟩
  case round =>
    obtain ⟨k, rfl, hk, hND⟩ := hrel
    by_cases hk12 : k < 12
    · have hix := bases_at k hk12
      have hbl := bs_lt k hk12
      have hb0 : ((bs k : Int) == 0) = false := by simp; omega
      by_cases hm : n % bs k = 0
      · have hm' : ((n : Int) % (bs k : Int) == 0) = true := int_eq_yes (by omega)
        have HI := Alg.hid (is_base (bs_mem k hk12) hm)
        clear hm
        by_cases hnb : n = bs k
        · have HB := Alg.hid (isB_yes (HI.out.2 hnb))
          have hq : ((n : Int) == (bs k : Int)) = true := int_eq_yes (by omega)
          clear hnb
          go_wp2
          (try rw [Exit.noGoto_ret])
          go_ret
          exact ⟨by rw [HB.out]; rfl, hB0⟩
        · have HB := Alg.hid (isB_no (fun h => hnb (HI.out.1 h)))
          have hq : ((n : Int) == (bs k : Int)) = false := int_eq_no (by omega)
          clear hnb
          go_wp2
          (try rw [Exit.noGoto_ret])
          go_ret
          exact ⟨by rw [HB.out]; rfl, hB0⟩
      · have hm' : ((n : Int) % (bs k : Int) == 0) = false := int_eq_no (by omega)
        have HM := Alg.hid hm
        clear hm
        go_wp2
        go_round
        case rel => exact ⟨k + 1, by go_num, by omega, fun j hj => by
          by_cases e : j = k
          · rw [e]; exact HM.out
          · exact hND.out j (by omega)⟩
        case measure => simp [intOf]; omega
    · have ek : k = 12 := by omega
      subst ek
      have hND12 := Alg.hid hND.out
      have h2 : n % 2 ≠ 0 := hND.out 0 (by omega)
      clear hND
      obtain ⟨s, d, hs, hs64, hsd, hdo, hdq⟩ := ctz_split (n := n - 1) (by omega) (by omega)
      have hs0 : 0 < s := by
        rcases Nat.eq_zero_or_pos s with h | h
        · subst h; rw [Nat.pow_zero, Nat.one_mul] at hsd; omega
        · exact h
      have hd0 : d < 2147483648 := by
        have : 1 * d ≤ 2 ^ s * d := Nat.mul_le_mul_right _ (Nat.pow_pos (by omega))
        omega
      have e1 : (n : Int) - 1 = ((n - 1 : Nat) : Int) := by omega
      have ed : (((n - 1 : Nat) : Int)) / 2 ^ s = (d : Int) := by rw [hdq]; simp
      have HSD := Alg.hid hsd
      have HDO := Alg.hid hdo
      have HS := Alg.hid hs
      clear hs hsd hdq hdo h2
      go_wp2_with fail
      refine (bits_TZ64 (n - 1) (by omega) (by omega) _ (fun j hj => ((Below.refl _ _).alloc (Nat.le_refl _) _).cell (cell_lt (HT.out j hj)) |>.trans (HT.out j hj))).mono ?_
      rintro e w' ⟨rfl, rfl⟩
      rw [HS.out]
      go_wp2
      go_step3
      go_wp2
      clear g1 g2
      have HND := Alg.hid hND12.out
      clear hND12
      go_loopg [38] 12 (fun g v wr => ∃ k : Nat, k + g = 12 ∧ v = .int .i64 k ∧ Hid (∀ j, j < k → PassAt (bs j) n s d) ∧ Below w.heap.size w wr)
      case atStart => exact ⟨0, rfl, rfl, fun j hj => by omega, hB0⟩
      case round =>
        obtain ⟨k, hkg, rfl, hPS, hbw⟩ := hrel
        have HB := Alg.hid hbw
        clear hbw
        cases gk with
        | zero =>
          have ek : k = 12 := by omega
          subst ek
          have HP := Alg.hid (isB_yes (pass_is (by omega) hn HND.out HSD.out HDO.out hPS.out))
          go_wp2
          (try rw [Exit.noGoto_ret])
          go_ret
          exact ⟨by rw [HP.out]; rfl, HB.out⟩
        | succ g =>
          have hk12 : k < 12 := by omega
          have hix := bases_at k hk12
          go_wp2_with fail
          refine (prime_power (bs k) d n (by omega) (by omega) (by omega) _).mono ?_
          rintro e w1 ⟨rfl, hb1⟩
          have hX := Nat.mod_lt (bs k ^ d) (show 0 < n by omega)
          have HX : Hid (powM n (bs k) d = bs k ^ d % n) := rfl
          rw [HX.out]
          generalize hXX : bs k ^ d % n = X at hX HX ⊢
          have HXX := Alg.hid hXX
          clear hXX
          have hB1 : Hid (Below w.heap.size w w1) := bl HB.out hb1 HB.out.size
          clear hb1
          by_cases hx1 : X = 1
          · have HPA : Hid (PassAt (bs k) n s d) := Or.inl (by rw [HXX.out]; exact hx1)
            subst hx1
            go_wp2
            go_roundg g
            case rel => exact ⟨k + 1, by omega, by go_num, fun j hj => by
              by_cases e : j = k
              · rw [e]; exact HPA.out
              · exact hPS.out j (by omega), hB1.out⟩
            case measure => omega
          · have hq1 : ((X : Int) == 1) = false := int_eq_no (by omega)
            by_cases hx2 : X = n - 1
            · have HPA : Hid (PassAt (bs k) n s d) := Or.inr ⟨0, hs0, by rw [Nat.pow_zero, Nat.mul_one, HXX.out]; exact hx2⟩
              have hq2 : ((X : Int) == (n : Int) - 1) = true := int_eq_yes (by omega)
              have hq3 : ((X : Int) == ((n - 1 : Nat) : Int)) = true := int_eq_yes (by omega)
              clear hx2
              go_wp2
              go_roundg g
              case rel => exact ⟨k + 1, by omega, by go_num, fun j hj => by
                by_cases e : j = k
                · rw [e]; exact HPA.out
                · exact hPS.out j (by omega), hB1.out⟩
              case measure => omega
            · have hq2 : ((X : Int) == (n : Int) - 1) = false := int_eq_no (by omega)
              have hq3 : ((X : Int) == ((n - 1 : Nat) : Int)) = false := int_eq_no (by omega)
              have HX1 := Alg.hid hx1
              have HX2 := Alg.hid hx2
              clear hx1 hx2
              go_wp2
              go_loopg [10, 55] (s - 1) (fun g2 x v wr => ∃ j Y : Nat, j + g2 = s - 1 ∧ v = .int .i64 j ∧ x = .int .u64 Y ∧ Y < n ∧ Hid (bs k ^ (d * 2 ^ j) % n = Y) ∧ Hid (∀ r, r ≤ j → bs k ^ (d * 2 ^ r) % n ≠ n - 1) ∧ Below w.heap.size w wr)
              case atStart => exact ⟨0, X, by omega, rfl, rfl, hX, by show _ = _; rw [Nat.pow_zero, Nat.mul_one]; exact HXX.out, fun r hr => by
                have : r = 0 := by omega
                rw [this, Nat.pow_zero, Nat.mul_one, HXX.out]; exact HX2.out, hB1.out⟩
              case round =>
                obtain ⟨j, Y, hjg, rfl, rfl, hY, hYE, hNo, hbw⟩ := hrel
                have HB2 := Alg.hid hbw
                clear hbw
                cases gk with
                | zero =>
                  have hj : j = s - 1 := by omega
                  have hlt : ¬ ((j : Int) < (s : Int) - 1) := by omega
                  have HJ := Alg.hid hj
                  clear hj
                  have HP : Hid (isB n = false) := isB_no (fun hpr => by
                    rcases is_pass hpr (HND.out k hk12) hk12 HSD.out with h | ⟨r, hr, h⟩
                    · exact HX1.out (by rw [← HXX.out]; exact h)
                    · exact hNo.out r (by have := HJ.out; omega) h)
                  go_wp2
                  (try rw [Exit.noGoto_ret])
                  go_ret
                  exact ⟨by rw [HP.out]; rfl, HB2.out⟩
                | succ g2 =>
                  have hlt : (j : Int) < (s : Int) - 1 := by omega
                  go_wp2_with fail
                  refine (prime_times Y Y n (by omega) (by omega) _).mono ?_
                  rintro e w2 ⟨rfl, hb2⟩
                  have hZ := mulM_lt n Y Y (by omega)
                  have hZE : Hid (bs k ^ (d * 2 ^ (j + 1)) % n = mulM n Y Y) := by
                    show _ = _
                    rw [mulM, ← hYE.out, ← Nat.mul_mod, ← Nat.pow_two, ← Nat.pow_mul, Nat.mul_assoc, ← Nat.pow_succ]
                  generalize mulM n Y Y = Z at hZ hZE ⊢
                  have hB3 : Hid (Below w.heap.size w w2) := bl HB2.out hb2 HB2.out.size
                  clear hb2
                  by_cases hz : Z = n - 1
                  · have HPA : Hid (PassAt (bs k) n s d) := Or.inr ⟨j + 1, by omega, by rw [hZE.out]; exact hz⟩
                    have hq4 : ((Z : Int) == (n : Int) - 1) = true := int_eq_yes (by omega)
                    have hq5 : ((Z : Int) == ((n - 1 : Nat) : Int)) = true := int_eq_yes (by omega)
                    clear hz
                    go_wp2
                    go_roundg g
                    case rel => exact ⟨k + 1, by omega, by go_num, fun j hj => by
                      by_cases e : j = k
                      · rw [e]; exact HPA.out
                      · exact hPS.out j (by omega), hB3.out⟩
                    case measure => omega
                  · have hq4 : ((Z : Int) == (n : Int) - 1) = false := int_eq_no (by omega)
                    have hq5 : ((Z : Int) == ((n - 1 : Nat) : Int)) = false := int_eq_no (by omega)
                    have HZ := Alg.hid hz
                    clear hz
                    go_wp2
                    go_roundg g2
                    case rel => exact ⟨j + 1, Z, by omega, by go_num, rfl, hZ, hZE, fun r hr => by
                      by_cases e : r = j + 1
                      · rw [e, hZE.out]; exact HZ.out
                      · exact hNo.out r (by omega), hB3.out⟩
                    case measure => omega
/-- the table that math/bits' initialiser lays -/
def Tab (w : World) : Prop := TabAt 1 Lib.deBruijn64tab w
theorem Tab.mono {w w' : World} (h : Tab w) (hb : Below w.heap.size w w') : Tab w' := fun j hj => (hb.cell (cell_lt (h j hj))).trans (h j hj)
theorem modp_Field (p : Nat) (hp : p < 4294967296) (w : World) (hT : Tab w) :
    Calls Tryd.prog 15 #[.int .u32 p] w fun e w' => e = .returned (.int .i64 (errP p)) ∧ Below w.heap.size w w' := by
  by_cases h : p < 2147483648
  · have g1 : ¬ (2147483647 : Int) < (p : Int) := by omega
    by_cases hp2 : IsPr p
    · rw [errP_yes hp2 h]
      have HB := Alg.hid (isB_yes hp2)
      clear hp2
      go_enter Tryd.func15, Tryd.ntmps15
      go_wp2_with fail
      refine (prime_Is p h _ hT).mono ?_
      rw [HB.out]
      rintro e w' ⟨rfl, hb⟩
      go_wp2
      go_ret
      exact ⟨rfl, hb⟩
    · rw [errP_no (fun x => hp2 x.1)]
      have HB := Alg.hid (isB_no hp2)
      clear hp2
      go_enter Tryd.func15, Tryd.ntmps15
      go_wp2_with fail
      refine (prime_Is p h _ hT).mono ?_
      rw [HB.out]
      rintro e w' ⟨rfl, hb⟩
      go_wp2
      go_ret
      exact ⟨rfl, hb⟩
  · rw [errP_no (fun x => h x.2)]
    have g1 : (2147483647 : Int) < (p : Int) := by omega
    clear h
    go_enter Tryd.func15, Tryd.ntmps15
    go_wp2
    go_ret
    exact ⟨rfl, Below.refl _ _⟩
/-- so at each prime, wherever the table is laid -/
theorem fieldC_of {w : World} (hT : Tab w) (p : Nat) (hp : p < 4294967296) : FieldC w p := fun w' hb => modp_Field p hp w' (hT.mono hb)
end Go.Proofs.YtbnjmeeaaieicaaDoor
end
