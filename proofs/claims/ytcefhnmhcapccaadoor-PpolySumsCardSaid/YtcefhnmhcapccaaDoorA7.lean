import Derived.Test.YtcefhnmhcapccaaDoorM2
namespace Alg

/-- a prime is what no number up to its root divides -/
theorem isPr_iff (p : Nat) : IsPr p ↔ 2 ≤ p ∧ ∀ d, 2 ≤ d → d * d ≤ p → p % d ≠ 0 := by
  constructor
  · intro hp
    refine ⟨hp.1, fun d h2 hd hm => ?_⟩
    rcases hp.2 d (Nat.dvd_of_mod_eq_zero hm) with h | h
    · omega
    · subst h
      have : 2 * d ≤ d * d := Nat.mul_le_mul_right d h2
      omega
  · rintro ⟨h2, h⟩
    refine Classical.byContradiction fun hn => ?_
    obtain ⟨q, hq, hqp, hmin⟩ := minFac_ex p h2
    have := minFac_sq h2 hn hqp hmin hq.1
    exact h q hq.1 this (Nat.mod_eq_zero_of_dvd hqp)

/-- what is squared to 1 modulo a prime is 1 or -1 -/
theorem sq_one {p x : Nat} (hp : IsPr p) (h : x * x % p = 1) : x % p = 1 ∨ x % p = p - 1 := by
  haveI : NeZero p := ⟨by have := hp.1; omega⟩
  have h2 := hp.1
  have e : (Fp.of x : Fp p) * Fp.of x = 1 := by
    rw [← Fp.of_mul, ← Fp.of_one]; exact Fp.of_eq.2 (by rw [h, Nat.mod_eq_of_lt (by omega)])
  have e2 : ((Fp.of x : Fp p) + -1) * (Fp.of x + 1) = 0 := by
    rw [CR.add_mul, CR.mul_add, CR.mul_add, e, CR.mul_one, CR.mul_one, CR.neg_mul, CR.one_mul]
    have : (1 : Fp p) + Fp.of x + (-Fp.of x + -1) = (1 + -1) + (Fp.of x + -Fp.of x) := by ac_rfl
    rw [this, CR.add_neg, CR.add_neg, CR.add_zero]
  rcases Fp.mul_eq_zero hp e2 with h3 | h3
  · left
    have := CR.add_neg_eq_zero h3
    rw [← Fp.of_one] at this
    have := Fp.of_eq.1 this
    rwa [Nat.mod_eq_of_lt (show 1 < p by omega)] at this
  · right
    have h4 : (Fp.of (x + 1) : Fp p) = 0 := by rw [Fp.of_add, Fp.of_one]; exact h3
    have h5 := Nat.mod_eq_zero_of_dvd (Fp.of_eq_zero.1 h4)
    have h6 := Nat.mod_lt x (show 0 < p by omega)
    rw [Nat.add_mod, Nat.mod_eq_of_lt (show 1 < p by omega)] at h5
    rcases Nat.lt_or_ge (x % p + 1) p with h7 | h7
    · rw [Nat.mod_eq_of_lt h7] at h5; omega
    · omega
theorem sq_chain {p x : Nat} (hp : IsPr p) : ∀ s, x ^ (2 ^ s) % p = 1 → x % p = 1 ∨ ∃ r, r < s ∧ x ^ (2 ^ r) % p = p - 1
  | 0, h => by left; simpa using h
  | s + 1, h => by
    have e : x ^ 2 ^ (s + 1) = x ^ 2 ^ s * x ^ 2 ^ s := by rw [Nat.pow_succ, Nat.pow_mul, Nat.pow_two]
    rw [e] at h
    rcases sq_one hp h with h1 | h1
    · rcases sq_chain hp s h1 with h2 | ⟨r, hr, h2⟩
      · exact Or.inl h2
      · exact Or.inr ⟨r, by omega, h2⟩
    · exact Or.inr ⟨s, by omega, h1⟩
theorem spr_of_prime {p b s d : Nat} (hp : IsPr p) (hb : ¬ p ∣ b) (e : p - 1 = 2 ^ s * d) :
    b ^ d % p = 1 ∨ ∃ r, r < s ∧ b ^ (d * 2 ^ r) % p = p - 1 := by
  have h2 := hp.1
  have h := fermat_nat hp hb
  rw [e, Nat.mul_comm, Nat.pow_mul, Nat.mod_eq_of_lt (show 1 < p by omega)] at h
  rcases sq_chain hp s h with h1 | ⟨r, hr, h1⟩
  · exact Or.inl h1
  · exact Or.inr ⟨r, hr, by rw [Nat.pow_mul]; exact h1⟩
end Alg
