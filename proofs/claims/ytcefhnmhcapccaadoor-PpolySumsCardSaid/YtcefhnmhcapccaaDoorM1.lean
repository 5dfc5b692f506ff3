import Derived.Test.YtcefhnmhcapccaaDoorA2
namespace Alg
namespace MR

/-! ### which numbers below 2^31 pass for primes at the bases up to 37 -/

def bases : List Nat := [2, 3, 5, 7, 11, 13, 17, 19, 23, 29, 31, 37]

/-- n passes at the base b -/
def Spr (b n : Nat) : Prop := ∃ s d, n - 1 = 2 ^ s * d ∧ d % 2 = 1 ∧ (b ^ d % n = 1 ∨ ∃ r, r < s ∧ b ^ (d * 2 ^ r) % n = n - 1)

/-! loops that the kernel reckons -/
def all (f : Nat → Bool) : Nat → Nat → Bool
  | 0, _ => true
  | k + 1, i => bif f i then all f k (i + 1) else false
theorem all_of {f : Nat → Bool} : ∀ k i, all f k i = true → ∀ j, i ≤ j → j < i + k → f j = true
  | 0, i, _, j, h1, h2 => by omega
  | k + 1, i, h, j, h1, h2 => by
    unfold all at h
    cases hf : f i with
    | false => rw [hf] at h; exact absurd h (by simp)
    | true =>
      rw [hf] at h
      by_cases e : j = i
      · rw [e, hf]
      · exact all_of k (i + 1) h j (by omega) (by omega)
theorem all_cat {f : Nat → Bool} {k m i : Nat} (h1 : ∀ j, i ≤ j → j < i + k → f j = true) (h2 : ∀ j, i + k ≤ j → j < i + k + m → f j = true) :
    ∀ j, i ≤ j → j < i + (k + m) → f j = true := fun j a b => by
  by_cases h : j < i + k
  · exact h1 j a h
  · exact h2 j (by omega) (by omega)

/-- b^(n-1) modulo n, for n below 2^33 -/
def fmK (K K2 b n : Nat) : Nat :=
  ((b ^ ((n - 1) / K2) % n) ^ K * b ^ ((n - 1) / K % K) % n) ^ K * b ^ ((n - 1) % K) % n
def fm (b n : Nat) : Nat := fmK 2048 4194304 b n
theorem fm_gen (b n m K K2 : Nat) (h : K2 = K * K) : ((b ^ (m / K2) % n) ^ K * b ^ (m / K % K) % n) ^ K * b ^ (m % K) % n = b ^ m % n := by
  have key : ∀ x y z : Nat, (x % n) ^ y * z % n = x ^ y * z % n := fun x y z => by
    rw [Nat.mul_mod, ← Nat.pow_mod, ← Nat.mul_mod]
  have e1 : m / K2 * K + m / K % K = m / K := by
    rw [h, ← Nat.div_div_eq_div_mul, Nat.mul_comm]; exact Nat.div_add_mod _ _
  have e2 : m / K * K + m % K = m := by rw [Nat.mul_comm]; exact Nat.div_add_mod _ _
  rw [key (b ^ (m / K2)), key, ← Nat.pow_mul, ← Nat.pow_add, e1, ← Nat.pow_mul, ← Nat.pow_add, e2]
theorem fmK_eq (K K2 b n : Nat) (h : K2 = K * K) : fmK K K2 b n = b ^ (n - 1) % n := fm_gen b n (n - 1) K K2 h
theorem fm_eq (b n : Nat) : fm b n = b ^ (n - 1) % n := fmK_eq 2048 4194304 b n (by decide)

def powm (n : Nat) : Nat → Nat → Nat → Nat → Nat
  | 0, _, _, acc => acc
  | k + 1, b, e, acc => bif Nat.beq e 0 then acc else powm n k (b * b % n) (e / 2) (bif Nat.beq (e % 2) 1 then acc * b % n else acc)
theorem powm_eq (n : Nat) : ∀ k b e acc, e < 2 ^ k → powm n k b e acc % n = acc * b ^ e % n
  | 0, b, e, acc, h => by
    have : e = 0 := by simp at h; exact h
    subst this; show acc % n = _; rw [Nat.pow_zero, Nat.mul_one]
  | k + 1, b, e, acc, h => by
    unfold powm
    by_cases e0 : e = 0
    · subst e0; show acc % n = _; rw [Nat.pow_zero, Nat.mul_one]
    · have hb : Nat.beq e 0 = false := by cases e with | zero => exact absurd rfl e0 | succ e => rfl
      rw [hb]
      show powm n k (b * b % n) (e / 2) _ % n = _
      rw [powm_eq n k _ _ _ (by rw [Nat.pow_succ] at h; omega)]
      have hsq : ∀ a : Nat, a * (b * b % n) ^ (e / 2) % n = a * (b * b) ^ (e / 2) % n := fun a => by
        rw [Nat.mul_mod, ← Nat.pow_mod, ← Nat.mul_mod]
      rw [hsq, ← Nat.pow_two, ← Nat.pow_mul]
      rcases Nat.mod_two_eq_zero_or_one e with h2 | h2
      · have : Nat.beq (e % 2) 1 = false := by rw [h2]; rfl
        rw [this]; show acc * b ^ (2 * (e / 2)) % n = _
        rw [show 2 * (e / 2) = e by omega]
      · have : Nat.beq (e % 2) 1 = true := by rw [h2]; rfl
        rw [this]; show acc * b % n * b ^ (2 * (e / 2)) % n = _
        rw [Nat.mod_mul_mod, Nat.mul_assoc, ← Nat.pow_succ', show (2 * (e / 2)).succ = e by omega]

/-- what n must pass at b, as a reckoning: some j -/
def one (b n j : Nat) : Bool :=
  bif Nat.beq ((n - 1) % 2 ^ j) 0 then
    (bif Nat.beq (powm n 32 b ((n - 1) / 2 ^ j) 1 % n) (n - 1) then true else
      bif Nat.beq ((n - 1) / 2 ^ j % 2) 1 then Nat.beq (powm n 32 b ((n - 1) / 2 ^ j) 1 % n) 1 else false)
  else false
def any (f : Nat → Bool) : Nat → Nat → Bool
  | 0, _ => false
  | k + 1, i => bif f i then true else any f k (i + 1)
theorem any_of {f : Nat → Bool} : ∀ k i j, i ≤ j → j < i + k → f j = true → any f k i = true
  | 0, i, j, h1, h2, _ => by omega
  | k + 1, i, j, h1, h2, h => by
    unfold any
    by_cases e : j = i
    · subst e; rw [h]; rfl
    · cases f i with
      | true => rfl
      | false => exact any_of k (i + 1) j (by omega) (by omega) h
def sprB (b n : Nat) : Bool := any (one b n) 31 0
theorem sprB_of {b n : Nat} (h1 : 1 < n) (h : n < 2147483648) (hs : Spr b n) : sprB b n = true := by
  obtain ⟨s, d, e, hd, hh⟩ := hs
  have hs31 : s < 31 := by
    rcases Nat.lt_or_ge s 31 with h2 | h2
    · exact h2
    · have h3 : 2 ^ 31 ≤ 2 ^ s := Nat.pow_le_pow_right (by omega) h2
      have h4 : 0 < d := by omega
      have h5 : 2 ^ s * 1 ≤ 2 ^ s * d := Nat.mul_le_mul_left _ h4
      have h6 : (2 : Nat) ^ 31 = 2147483648 := by decide
      omega
  have hpw : ∀ x, x < 2 ^ 32 → powm n 32 b x 1 % n = b ^ x % n := fun x hx => by rw [powm_eq n 32 b x 1 hx, Nat.one_mul]
  have h32 : (2 : Nat) ^ 32 = 4294967296 := by decide
  rcases hh with hh | ⟨r, hr, hh⟩
  · refine any_of 31 0 s (by omega) (by omega) ?_
    have hq : (n - 1) / 2 ^ s = d := by rw [e]; exact Nat.mul_div_cancel_left _ (Nat.pow_pos (by omega))
    have hm : (n - 1) % 2 ^ s = 0 := by rw [e]; exact Nat.mul_mod_right _ _
    have hle : d ≤ n - 1 := by rw [← hq]; exact Nat.div_le_self _ _
    unfold one
    rw [hm, hq, hpw d (by omega), hh, hd]
    cases Nat.beq 1 (n - 1) <;> rfl
  · refine any_of 31 0 (s - r) (by omega) (by omega) ?_
    have e2 : n - 1 = 2 ^ (s - r) * (d * 2 ^ r) := by
      rw [e, Nat.mul_comm d, ← Nat.mul_assoc, ← Nat.pow_add, show s - r + r = s by omega]
    have hq : (n - 1) / 2 ^ (s - r) = d * 2 ^ r := by rw [e2]; exact Nat.mul_div_cancel_left _ (Nat.pow_pos (by omega))
    have hm : (n - 1) % 2 ^ (s - r) = 0 := by rw [e2]; exact Nat.mul_mod_right _ _
    have hle : d * 2 ^ r ≤ n - 1 := by rw [← hq]; exact Nat.div_le_self _ _
    unfold one
    rw [hm, hq, hpw _ (by omega), hh]
    have : Nat.beq (n - 1) (n - 1) = true := Nat.beq_refl _
    rw [this]; rfl

theorem spr_fermat {b n : Nat} (h1 : 1 < n) (hs : Spr b n) : b ^ (n - 1) % n = 1 := by
  obtain ⟨s, d, e, hd, hh⟩ := hs
  rcases hh with hh | ⟨r, hr, hh⟩
  · rw [e, Nat.mul_comm, Nat.pow_mul, Nat.pow_mod, hh, Nat.one_pow, Nat.mod_eq_of_lt h1]
  · have e2 : n - 1 = d * 2 ^ r * (2 * 2 ^ (s - r - 1)) := by
      rw [e, Nat.mul_comm d, Nat.mul_comm 2, ← Nat.pow_succ, Nat.mul_comm (2 ^ r) d, Nat.mul_assoc, ← Nat.pow_add, show r + (s - r - 1).succ = s by omega, Nat.mul_comm]
    have hsq : (n - 1) ^ 2 % n = 1 := by
      obtain ⟨m, rfl⟩ : ∃ m, n = m + 2 := ⟨n - 2, by omega⟩
      rw [show m + 2 - 1 = m + 1 by omega, Nat.pow_two, show (m + 1) * (m + 1) = 1 + (m + 2) * m by rw [Nat.add_mul, Nat.add_mul, Nat.mul_add, Nat.mul_add]; omega, Nat.add_mul_mod_self_left, Nat.mod_eq_of_lt h1]
    rw [e2, Nat.pow_mul, Nat.pow_mod, hh, Nat.pow_mul, Nat.pow_mod, hsq, Nat.one_pow, Nat.mod_eq_of_lt h1]

/-- n is none that passes: divisible by a small one, or Fermat's or Miller's word against it -/
def small : Nat := 7420738134810
def bad (n : Nat) : Bool :=
  bif Nat.beq (Nat.gcd n small) 1 then
    bif Nat.beq (fm 2 n) 1 then
      bif Nat.beq (fm 3 n) 1 then
        bif sprB 2 n then bif sprB 3 n then bif sprB 5 n then !sprB 7 n else true else true else true
      else true
    else true
  else true

structure Pass (n : Nat) : Prop where
  gt : 1 < n
  lt : n < 2147483648
  cop : Nat.gcd n small = 1
  spr : ∀ b, b ∈ bases → Spr b n
theorem Pass.not_bad {n : Nat} (h : Pass n) : bad n = false := by
  have f2 := spr_fermat h.gt (h.spr 2 (by decide))
  have f3 := spr_fermat h.gt (h.spr 3 (by decide))
  have s2 := sprB_of h.gt h.lt (h.spr 2 (by decide))
  have s3 := sprB_of h.gt h.lt (h.spr 3 (by decide))
  have s5 := sprB_of h.gt h.lt (h.spr 5 (by decide))
  have s7 := sprB_of h.gt h.lt (h.spr 7 (by decide))
  unfold bad
  rw [h.cop, fm_eq, fm_eq, f2, f3, s2, s3, s5, s7]; rfl

/-! primes in the loops -/
def prim : Nat := 2 * 3 * 5 * 7 * 11 * 13 * 17 * 19 * 23 * 29 * 31 * 37 * 41 * 43 * 47 * 53 * 59 * 61 * 67 * 71 * 73 * 79 * 83 * 89 * 97 * 101 * 103 * 107 * 109 * 113 * 127 * 131 * 137 * 139 * 149 * 151 * 157 * 163 * 167 * 173 * 179 * 181 * 191 * 193 * 197 * 199 * 211
def few : List Nat := [41, 43, 47, 53, 59, 61, 67, 71, 73, 79, 83, 89, 97, 101, 103, 107, 109, 113, 127, 131, 137, 139, 149, 151, 157, 163, 167, 173, 179, 181, 191, 193, 197, 199, 211]
def inL (n : Nat) : List Nat → Bool
  | [] => false
  | a :: l => bif Nat.beq n a then true else inL n l
def isP (p : Nat) : Bool := bif Nat.ble p 211 then inL p few else Nat.beq (Nat.gcd p prim) 1
end MR

theorem IsPr.dvd_or_coprime {p n : Nat} (hp : IsPr p) : p ∣ n ∨ Nat.gcd p n = 1 := by
  by_cases h : p ∣ n
  · exact Or.inl h
  · exact Or.inr (hp.coprime h)
theorem IsPr.dvd_prod {p : Nat} (hp : IsPr p) : ∀ l : List Nat, p ∣ l.foldl (· * ·) 1 → ∃ a, a ∈ l ∧ p ∣ a := by
  have key : ∀ (l : List Nat) (c : Nat), p ∣ l.foldl (· * ·) c → p ∣ c ∨ ∃ a, a ∈ l ∧ p ∣ a := by
    intro l
    induction l with
    | nil => exact fun c h => Or.inl h
    | cons a l ih =>
      intro c h
      rcases ih (c * a) h with h | ⟨b, hb, h⟩
      · rcases hp.dvd_mul h with h | h
        · exact Or.inl h
        · exact Or.inr ⟨a, List.mem_cons_self, h⟩
      · exact Or.inr ⟨b, List.mem_cons_of_mem _ hb, h⟩
  intro l h
  rcases key l 1 h with h | h
  · have := Nat.le_of_dvd (by omega) h; have := hp.1; omega
  · exact h
/-- the least divisor -/
theorem minFac_ex : ∀ n, 2 ≤ n → ∃ p, IsPr p ∧ p ∣ n ∧ ∀ d, d ∣ n → 2 ≤ d → p ≤ d := by
  intro n hn
  -- the least d from 2 on that divides n
  have hex : ∀ k, ∀ m, n - m ≤ k → 2 ≤ m → m ≤ n → (∀ d, d ∣ n → 2 ≤ d → m ≤ d) → ∃ p, 2 ≤ p ∧ p ∣ n ∧ ∀ d, d ∣ n → 2 ≤ d → p ≤ d := by
    intro k
    induction k with
    | zero => intro m h1 h2 h3 h4; exact ⟨m, h2, by rw [show m = n by omega]; exact Nat.dvd_refl _, h4⟩
    | succ k ih =>
      intro m h1 h2 h3 h4
      by_cases hd : m ∣ n
      · exact ⟨m, h2, hd, h4⟩
      · have hne : m ≠ n := fun e => hd (e ▸ Nat.dvd_refl _)
        refine ih (m + 1) (by omega) (by omega) (by omega) fun d hdn hd2 => ?_
        have := h4 d hdn hd2
        rcases Nat.lt_or_ge m d with h | h
        · exact h
        · exact absurd ((show d = m by omega) ▸ hdn) hd
  obtain ⟨p, h2, hp, hl⟩ := hex (n - 2) 2 (by omega) (by omega) hn (fun _ _ h => h)
  refine ⟨p, ⟨h2, fun d hd => ?_⟩, hp, hl⟩
  by_cases h1 : d = 1
  · exact Or.inl h1
  · right
    have hd0 : d ≠ 0 := fun e => by rw [e] at hd; have := Nat.eq_zero_of_zero_dvd hd; omega
    have := hl d (Nat.dvd_trans hd hp) (by omega)
    have := Nat.le_of_dvd (by omega) hd
    omega
theorem minFac_sq {n p : Nat} (hn : 2 ≤ n) (hp : ¬ IsPr n) (h : p ∣ n) (hm : ∀ d, d ∣ n → 2 ≤ d → p ≤ d) (h2 : 2 ≤ p) : p * p ≤ n := by
  obtain ⟨q, rfl⟩ := h
  have hq : q ≠ 0 := fun e => by rw [e] at hn; omega
  by_cases h1 : q = 1
  · subst h1
    rw [Nat.mul_one] at *
    exfalso; apply hp
    refine ⟨h2, fun d hd => ?_⟩
    by_cases e1 : d = 1
    · exact Or.inl e1
    · have d0 : d ≠ 0 := fun e => by rw [e] at hd; have := Nat.eq_zero_of_zero_dvd hd; omega
      have := hm d hd (by omega); have := Nat.le_of_dvd (by omega) hd; exact Or.inr (by omega)
  · exact Nat.mul_le_mul_left p (hm q ⟨p, Nat.mul_comm _ _⟩ (by omega))

namespace MR
theorem inL_of {n : Nat} : ∀ l, n ∈ l → inL n l = true
  | [], h => absurd h (List.not_mem_nil)
  | a :: l, h => by
    unfold inL
    by_cases e : n = a
    · rw [e, Nat.beq_refl]; rfl
    · have : Nat.beq n a = false := by
        cases hb : Nat.beq n a with
        | false => rfl
        | true => exact absurd (Nat.eq_of_beq_eq_true hb) e
      rw [this]; exact inL_of l ((List.mem_cons.1 h).resolve_left e)
def primL : List Nat := [2, 3, 5, 7, 11, 13, 17, 19, 23, 29, 31, 37, 41, 43, 47, 53, 59, 61, 67, 71, 73, 79, 83, 89, 97, 101, 103, 107, 109, 113, 127, 131, 137, 139, 149, 151, 157, 163, 167, 173, 179, 181, 191, 193, 197, 199, 211]
/-- any number from 41 to 211 that is a prime stands in the list -/
theorem few_all : all (fun n => bif inL n few then true else any (fun d => bif Nat.beq (n % d) 0 then Nat.blt d n else false) 13 2) 171 41 = true := by decide +kernel
theorem any_ex {f : Nat → Bool} : ∀ k i, any f k i = true → ∃ j, i ≤ j ∧ j < i + k ∧ f j = true
  | 0, _, h => by exact absurd h (by unfold any; simp)
  | k + 1, i, h => by
    unfold any at h
    cases hf : f i with
    | true => exact ⟨i, Nat.le_refl _, by omega, hf⟩
    | false =>
      rw [hf] at h
      obtain ⟨j, h1, h2, h3⟩ := any_ex k (i + 1) h
      exact ⟨j, by omega, by omega, h3⟩
theorem isP_of {p : Nat} (hp : IsPr p) (h : 41 ≤ p) : isP p = true := by
  unfold isP
  cases hb : Nat.ble p 211 with
  | true =>
    show inL p few = true
    have := Nat.le_of_ble_eq_true hb
    have h2 := all_of _ _ few_all p h (by omega)
    cases hi : inL p few with
    | true => rfl
    | false =>
      exfalso
      simp only [hi, cond_false] at h2
      obtain ⟨d, h3, h4, h5⟩ := any_ex _ _ h2
      cases hm : Nat.beq (p % d) 0 with
      | false => rw [hm] at h5; exact absurd h5 (by simp)
      | true =>
        rw [hm] at h5
        have h6 : p % d = 0 := Nat.eq_of_beq_eq_true hm
        have h7 : d < p := by simpa using h5
        rcases hp.2 d (Nat.dvd_of_mod_eq_zero h6) with h8 | h8 <;> omega
  | false =>
    show Nat.beq (Nat.gcd p prim) 1 = true
    have hgt : 211 < p := by
      rcases Nat.lt_or_ge 211 p with h1 | h1
      · exact h1
      · rw [Nat.ble_eq_true_of_le h1] at hb; exact absurd hb (by simp)
    rcases hp.dvd_or_coprime (n := prim) with h1 | h1
    · exfalso
      have e : prim = primL.foldl (· * ·) 1 := by decide +kernel
      rw [e] at h1
      obtain ⟨a, ha, hd⟩ := hp.dvd_prod _ h1
      have h2 : ∀ a, a ∈ primL → 0 < a ∧ a ≤ 211 := by decide
      have := h2 a ha
      have := Nat.le_of_dvd this.1 hd
      omega
    · rw [h1]; rfl
end MR
end Alg
