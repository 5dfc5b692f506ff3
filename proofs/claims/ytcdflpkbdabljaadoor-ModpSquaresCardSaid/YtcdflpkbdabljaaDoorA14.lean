/- Below 2^31 a number is a prime just if no base divides it and it passes at each base: in plain words. -/
import Derived.Test.YtcdflpkbdabljaaDoorP1
import Derived.Test.YtcdflpkbdabljaaDoorKz
import Derived.Lib.TrailingZeros
namespace Alg
open MR
/-- it passes at b, where n - 1 = 2^s d -/
def PassAt (b n s d : Nat) : Prop := b ^ d % n = 1 ∨ ∃ r, r < s ∧ b ^ (d * 2 ^ r) % n = n - 1
/-- the base number k -/
def bs (k : Nat) : Nat := bases.getD k 0
theorem bs_mem : ∀ k, k < 12 → bs k ∈ bases := by decide
theorem bs_all {P : Nat → Prop} (h : ∀ k, k < 12 → P (bs k)) : ∀ b, b ∈ bases → P b := fun b hb => by
  obtain ⟨k, hk, e⟩ := List.mem_iff_getElem.1 hb
  have hk' : k < 12 := hk
  have := h k hk'
  unfold bs at this
  rw [List.getD_eq_getElem?_getD, List.getElem?_eq_getElem hk] at this
  rw [← e]; exact this
theorem bs_lt : ∀ k, k < 12 → 2 ≤ bs k ∧ bs k ≤ 37 := by decide
theorem base_prime {b : Nat} (hb : b ∈ bases) : IsPr b := by
  have h : ∀ b, b ∈ bases → 2 ≤ b ∧ b ≤ 37 ∧ ∀ d, d < 7 → 2 ≤ d → d * d ≤ b → b % d ≠ 0 := by decide
  obtain ⟨h1, h2, h3⟩ := h b hb
  refine (isPr_iff b).2 ⟨h1, fun d h4 h5 => ?_⟩
  rcases Nat.lt_or_ge d 7 with h6 | h6
  · exact h3 d h6 h4 h5
  · have := Nat.mul_le_mul h6 h6; omega
theorem is_base {n b : Nat} (hb : b ∈ bases) (hd : n % b = 0) : IsPr n ↔ n = b := by
  constructor
  · intro hn
    have h1 := (base_prime hb).1
    rcases hn.2 b (Nat.dvd_of_mod_eq_zero hd) with h | h
    · omega
    · exact h.symm
  · rintro rfl; exact base_prime hb
theorem cop_small {n : Nat} (h : ∀ b, b ∈ bases → n % b ≠ 0) : Nat.gcd n small = 1 := by
  refine Classical.byContradiction fun hg => ?_
  have hs : 0 < Nat.gcd n small := Nat.gcd_pos_of_pos_right _ (by decide)
  obtain ⟨q, hq, hqd, _⟩ := minFac_ex (Nat.gcd n small) (by omega)
  have h1 : q ∣ bases.foldl (· * ·) 1 := Nat.dvd_trans hqd (Nat.gcd_dvd_right _ _)
  obtain ⟨a, ha, hqa⟩ := hq.dvd_prod _ h1
  rcases (base_prime ha).2 q hqa with h2 | h2
  · have := hq.1; omega
  · subst h2
    exact h q ha (Nat.mod_eq_zero_of_dvd (Nat.dvd_trans hqd (Nat.gcd_dvd_left _ _)))
theorem pass_is {n s d : Nat} (h2 : 2 ≤ n) (hlt : n < 2147483648) (hnd : ∀ k, k < 12 → n % bs k ≠ 0) (e : n - 1 = 2 ^ s * d) (ho : d % 2 = 1) (hp : ∀ k, k < 12 → PassAt (bs k) n s d) : IsPr n :=
  pass_prime checks ⟨h2, hlt, cop_small (bs_all hnd), fun b hb => ⟨s, d, e, ho, bs_all (P := fun b => PassAt b n s d) hp b hb⟩⟩
theorem is_pass {n s d k : Nat} (hn : IsPr n) (hk : n % bs k ≠ 0) (hkl : k < 12) (e : n - 1 = 2 ^ s * d) : PassAt (bs k) n s d :=
  spr_of_prime hn (fun hd => by
    rcases (base_prime (bs_mem k hkl)).2 n hd with h | h
    · have := hn.1; omega
    · exact hk (by rw [← h]; exact Nat.mod_self n)) e
theorem ctz_split {n : Nat} (h : 0 < n) (hn : n < 4294967296) : ∃ s d, Go.Lib.ctz 64 n = s ∧ s < 64 ∧ n = 2 ^ s * d ∧ d % 2 = 1 ∧ d = n / 2 ^ s := by
  obtain ⟨m, hm, hs⟩ := Go.Lib.ctzFrom_spec 64 n h (by omega)
  refine ⟨_, 2 * m + 1, rfl, ?_, ?_, by omega, ?_⟩
  · unfold Go.Lib.ctz; rw [if_neg (by omega)]; exact hs
  · unfold Go.Lib.ctz; rw [if_neg (by omega)]; exact hm
  · unfold Go.Lib.ctz; rw [if_neg (by omega)]
    exact (Nat.div_eq_of_eq_mul_right (Nat.pow_pos (by omega)) hm).symm
end Alg
