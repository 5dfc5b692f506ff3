/- Contracts of math/bits.Add32, Sub32, Div32. -/
import Derived.Test.YtbnjmeeaaieicaaDoorE2
import Derived.IntWalk
import Derived.Laws.Bits64b
open Alg Go Go.RowKit
namespace Alg
theorem wrapU32 (n : Int) : IntKind.u32.wrap n = n % 4294967296 := by simp [IntKind.wrap, IntKind.signed, IntKind.bits]
theorem u32_nat (a : Nat) (ha : a < 4294967296) : (BitVec.ofInt 32 (a : Int)).toNat = a := by
  rw [BitVec.ofInt_natCast, BitVec.toNat_ofNat]; exact Nat.mod_eq_of_lt (by omega)
theorem bits_and_u32N (a b : Nat) (ha : a < 4294967296) (hb : b < 4294967296) : bits .and .u32 (a : Int) (b : Int) = ((a &&& b : Nat) : Int) := by
  have hx : a &&& b < 2 ^ 32 := Nat.and_lt_two_pow _ (by omega)
  show IntKind.u32.wrap ((BitVec.ofInt 32 (a : Int) &&& BitVec.ofInt 32 (b : Int)).toNat : Int) = _
  rw [BitVec.toNat_and, u32_nat a ha, u32_nat b hb, wrapU32]
  omega
theorem bits_or_u32_nat (a b : Nat) (ha : a < 4294967296) (hb : b < 4294967296) : bits .or .u32 (a : Int) (b : Int) = ((a ||| b : Nat) : Int) := by
  have hx : a ||| b < 2 ^ 32 := Nat.or_lt_two_pow ha hb
  show IntKind.u32.wrap ((BitVec.ofInt 32 (a : Int) ||| BitVec.ofInt 32 (b : Int)).toNat : Int) = _
  rw [BitVec.toNat_or, u32_nat a ha, u32_nat b hb, wrapU32]
  omega
theorem bits_xor_u32_nat (a b : Nat) (ha : a < 4294967296) (hb : b < 4294967296) : bits .xor .u32 (a : Int) (b : Int) = ((a ^^^ b : Nat) : Int) := by
  have hx : a ^^^ b < 2 ^ 32 := Nat.xor_lt_two_pow ha hb
  show IntKind.u32.wrap ((BitVec.ofInt 32 (a : Int) ^^^ BitVec.ofInt 32 (b : Int)).toNat : Int) = _
  rw [BitVec.toNat_xor, u32_nat a ha, u32_nat b hb, wrapU32]
  omega
theorem top_bit {x : Nat} (hx : x < 4294967296) : x.testBit 31 = decide (2147483648 ≤ x) := by
  rw [Nat.testBit_eq_decide_div_mod_eq]
  congr 1
  apply propext
  omega
theorem borrow_nat (x y c D : Nat) (hx : x < 4294967296) (hy : y < 4294967296) (hc : c ≤ 1) (hD : D = (x + 4294967296 - y - c) % 4294967296) :
    (((4294967295 ^^^ x) &&& y) ||| ((4294967295 ^^^ (x ^^^ y)) &&& D)) / 2147483648 = if x < y + c then 1 else 0 := by
  have hM : (4294967295 : Nat) < 2 ^ 32 := by decide
  have hDl : D < 4294967296 := by omega
  have e1 : ((4294967295 ^^^ x) &&& y) ||| ((4294967295 ^^^ (x ^^^ y)) &&& D) < 2 ^ 32 :=
    Nat.or_lt_two_pow (Nat.and_lt_two_pow _ hy) (Nat.and_lt_two_pow _ hDl)
  have e2 := top_bit (x := ((4294967295 ^^^ x) &&& y) ||| ((4294967295 ^^^ (x ^^^ y)) &&& D)) e1
  rw [Nat.testBit_or, Nat.testBit_and, Nat.testBit_and, Nat.testBit_xor, Nat.testBit_xor, Nat.testBit_xor, top_bit hx, top_bit hy, top_bit hDl, top_bit (x := 4294967295) (by omega)] at e2
  generalize ((4294967295 ^^^ x) &&& y) ||| ((4294967295 ^^^ (x ^^^ y)) &&& D) = E at *
  by_cases h1 : 2147483648 ≤ x <;> by_cases h2 : 2147483648 ≤ y <;> by_cases h3 : 2147483648 ≤ D <;> by_cases h4 : 2147483648 ≤ E <;> by_cases h5 : x < y + c <;> simp [h1, h2, h3, h4, h5] at e2 ⊢ <;> omega
theorem borrow_int (x y c D B : Nat) (hx : x < 4294967296) (hy : y < 4294967296) (hc : c ≤ 1) (hD : D = (x + 4294967296 - y - c) % 4294967296) (hB : B = if x < y + c then 1 else 0) :
    bits BinOp.or IntKind.u32 (bits BinOp.and IntKind.u32 (bits BinOp.xor IntKind.u32 IntKind.u32.max (x : Int)) (y : Int)) (bits BinOp.and IntKind.u32 (bits BinOp.xor IntKind.u32 IntKind.u32.max (bits BinOp.xor IntKind.u32 (x : Int) (y : Int))) (D : Int)) / 2147483648 = (B : Int) := by
  have hDl : D < 4294967296 := by omega
  have hM : (IntKind.u32.max : Int) = ((4294967295 : Nat) : Int) := by decide
  have k1 : 4294967295 ^^^ x < 2 ^ 32 := Nat.xor_lt_two_pow (by decide) hx
  have k2 : x ^^^ y < 2 ^ 32 := Nat.xor_lt_two_pow hx hy
  have k3 : 4294967295 ^^^ (x ^^^ y) < 2 ^ 32 := Nat.xor_lt_two_pow (by decide) k2
  rw [hM, bits_xor_u32_nat _ _ (by decide) hx, bits_and_u32N _ _ k1 hy, bits_xor_u32_nat _ _ hx hy, bits_xor_u32_nat _ _ (by decide) k2, bits_and_u32N _ _ k3 hDl,
    bits_or_u32_nat _ _ (Nat.lt_of_le_of_lt Nat.and_le_right hy) (Nat.lt_of_le_of_lt Nat.and_le_right hDl)]
  have := borrow_nat x y c D hx hy hc hD
  rw [hB, ← this]
  rfl
theorem or_hi (h l : Nat) (hh : h < 4294967296) (hl : l < 4294967296) : bits BinOp.or IntKind.u64 ((h : Int) * 4294967296) (l : Int) = ((h * 4294967296 + l : Nat) : Int) := by
  have e : (h : Int) * 4294967296 = ((h * 4294967296 : Nat) : Int) := by simp
  rw [e, bits_or_u64_nat _ _ (by omega) (by omega)]
  congr 1
  have := Nat.shiftLeft_add_eq_or_of_lt (show l < 2 ^ 32 by omega) h
  rw [Nat.shiftLeft_eq] at this
  exact this.symm
theorem ret_two' {k k' : IntKind} {a b c d : Int} (h : a = b) (h' : c = d) : Ending.returned (.tuple #[.int k a, .int k' c]) = .returned (.tuple #[.int k b, .int k' d]) := by rw [h, h']
end Alg
namespace Go.Proofs.YtbnjmeeaaieicaaDoor
open Go.RowKit
theorem bits_Add32 (x y c s k : Nat) (w : World) (hx : x < 4294967296) (hy : y < 4294967296) (hc : c ≤ 1) (hs : s = (x + y + c) % 4294967296) (hk : k = (x + y + c) / 4294967296) :
    Calls Tryd.prog 131 #[.int .u32 x, .int .u32 y, .int .u32 c] w fun e w' => e = .returned (.tuple #[.int .u32 s, .int .u32 k]) ∧ w' = w := by
  have e1 : IntKind.u32.wrap ((x : Int) + (y : Int) + (c : Int)) = (s : Int) := by
    rw [wrapU32, hs]; simp
  have e2 : ((x : Int) + (y : Int) + (c : Int)) / 4294967296 = (k : Int) := by rw [hk]; simp
  have hk1 : k ≤ 1 := by omega
  clear hs hk
  go_enter Tryd.func131, Tryd.ntmps131
  go_wp2
  go_ret2
  exact ⟨rfl, rfl⟩
theorem bits_Sub32 (x y c D B : Nat) (w : World) (hx : x < 4294967296) (hy : y < 4294967296) (hc : c ≤ 1) (hD : D = (x + 4294967296 - y - c) % 4294967296) (hB : B = if x < y + c then 1 else 0) :
    Calls Tryd.prog 130 #[.int .u32 x, .int .u32 y, .int .u32 c] w fun e w' => e = .returned (.tuple #[.int .u32 D, .int .u32 B]) ∧ w' = w := by
  have e0 := wrapU32
  have e1 : ((x : Int) - (y : Int) - (c : Int)) % 4294967296 = (D : Int) := by omega
  have e2 := borrow_int x y c D B hx hy hc hD hB
  clear hD hB
  go_enter Tryd.func130, Tryd.ntmps130
  go_wp2
  go_ret2
  exact ⟨rfl, rfl⟩
theorem bits_Div32 (h l y q r : Nat) (w : World) (hl : l < 4294967296) (hh : h < y) (hy : y < 4294967296) (hq : q = (h * 4294967296 + l) / y) (hr : r = (h * 4294967296 + l) % y) :
    Calls Tryd.prog 138 #[.int .u32 h, .int .u32 l, .int .u32 y] w fun e w' => e = .returned (.tuple #[.int .u32 q, .int .u32 r]) ∧ Below w.heap.size w w' := by
  have g0 : ((y : Int) == 0) = false := by simp; omega
  have g1 : ¬ (y : Int) ≤ (h : Int) := by omega
  have g2 := or_hi h l (by omega) hl
  obtain ⟨Z, hZ⟩ : ∃ Z, Z = h * 4294967296 + l := ⟨_, rfl⟩
  rw [← hZ] at g2 hq hr
  have hZl : Z < y * 4294967296 := by
    have := Nat.mul_le_mul_right 4294967296 hh
    have e : Nat.succ h * 4294967296 = h * 4294967296 + 4294967296 := Nat.succ_mul _ _
    omega
  have hql : q < 4294967296 := by rw [hq]; exact (Nat.div_lt_iff_lt_mul (by omega)).2 (by rw [Nat.mul_comm]; exact hZl)
  have hrl : r < y := by rw [hr]; exact Nat.mod_lt _ (by omega)
  have g3 : (Z : Int) / (y : Int) = (q : Int) := by rw [hq]; simp
  have g4 : (Z : Int) % (y : Int) = (r : Int) := by rw [hr]; simp
  have hZ64 : Z < 18446744073709551616 := by omega
  clear hZ hq hr hZl
  go_enter Tryd.func138, Tryd.ntmps138
  go_wp2
  go_quiet (fail)
  go_wp2
  go_ret2
  exact ⟨rfl, Alg.below_drewN _ _⟩
end Go.Proofs.YtbnjmeeaaieicaaDoor
