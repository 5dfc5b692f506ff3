namespace Alg

/-- a commutative ring, in the words of this proof -/
class CR (R : Type) extends Add R, Mul R, Neg R, Zero R, One R where
  add_assoc : ∀ a b c : R, a + b + c = a + (b + c)
  add_comm : ∀ a b : R, a + b = b + a
  zero_add : ∀ a : R, 0 + a = a
  neg_add : ∀ a : R, -a + a = 0
  mul_assoc : ∀ a b c : R, a * b * c = a * (b * c)
  mul_comm : ∀ a b : R, a * b = b * a
  one_mul : ∀ a : R, 1 * a = a
  mul_add : ∀ a b c : R, a * (b + c) = a * b + a * c

namespace CR
variable {R : Type} [CR R]
instance : Std.Associative (α := R) (· + ·) := ⟨add_assoc⟩
instance : Std.Commutative (α := R) (· + ·) := ⟨add_comm⟩
instance : Std.Associative (α := R) (· * ·) := ⟨mul_assoc⟩
instance : Std.Commutative (α := R) (· * ·) := ⟨mul_comm⟩
theorem add_zero (a : R) : a + 0 = a := by rw [add_comm, zero_add]
theorem mul_one (a : R) : a * 1 = a := by rw [mul_comm, one_mul]
theorem add_mul (a b c : R) : (a + b) * c = a * c + b * c := by rw [mul_comm, mul_add, mul_comm c a, mul_comm c b]
theorem add_neg (a : R) : a + -a = 0 := by rw [add_comm, neg_add]
theorem add_left_cancel {a b c : R} (h : a + b = a + c) : b = c := by
  have := congrArg (-a + ·) h
  simpa only [← add_assoc, neg_add, zero_add] using this
theorem add_right_cancel {a b c : R} (h : a + c = b + c) : a = b := by
  rw [add_comm a, add_comm b] at h; exact add_left_cancel h
theorem mul_zero (a : R) : a * 0 = 0 := by
  have : a * 0 + a * 0 = a * 0 + 0 := by rw [← mul_add, zero_add, add_zero]
  exact add_left_cancel this
theorem zero_mul (a : R) : 0 * a = 0 := by rw [mul_comm, mul_zero]
theorem neg_eq {a b : R} (h : a + b = 0) : b = -a := by
  have : a + b = a + -a := by rw [h, add_neg]
  exact add_left_cancel this
theorem neg_neg (a : R) : - -a = a := (neg_eq (neg_add a)).symm
theorem neg_mul (a b : R) : -a * b = -(a * b) := by
  apply neg_eq; rw [← add_mul, add_neg, zero_mul]
theorem mul_neg (a b : R) : a * -b = -(a * b) := by rw [mul_comm, neg_mul, mul_comm]
theorem neg_zero : -(0 : R) = 0 := (neg_eq (zero_add 0)).symm
theorem neg_add_eq (a b : R) : -(a + b) = -a + -b := by
  symm; apply neg_eq
  have : a + b + (-a + -b) = (a + -a) + (b + -b) := by ac_rfl
  rw [this, add_neg, add_neg, zero_add]
theorem add_neg_eq_zero {a b : R} (h : a + -b = 0) : a = b := by
  have := neg_eq h
  have h2 := congrArg (fun x => -x) this
  simp only [neg_neg] at h2; exact h2.symm
theorem mul_left_comm (a b c : R) : a * (b * c) = b * (a * c) := by ac_rfl
theorem add_left_comm (a b c : R) : a + (b + c) = b + (a + c) := by ac_rfl

/-- sums over 0 .. n-1 -/
def sum (f : Nat → R) : Nat → R
  | 0 => 0
  | n + 1 => sum f n + f n
theorem sum_congr {f g : Nat → R} : ∀ n, (∀ i, i < n → f i = g i) → sum f n = sum g n
  | 0, _ => rfl
  | n + 1, h => by
    show sum f n + f n = sum g n + g n
    rw [sum_congr n (fun i hi => h i (by omega)), h n (by omega)]
theorem sum_zero : ∀ n, sum (fun _ => (0 : R)) n = 0
  | 0 => rfl
  | n + 1 => by show sum _ n + 0 = 0; rw [sum_zero n, add_zero]
theorem sum_zero' {f : Nat → R} (n : Nat) (h : ∀ i, i < n → f i = 0) : sum f n = 0 := by
  rw [sum_congr n h, sum_zero]
theorem sum_add (f g : Nat → R) : ∀ n, sum (fun i => f i + g i) n = sum f n + sum g n
  | 0 => (zero_add 0).symm
  | n + 1 => by
    show sum _ n + (f n + g n) = (sum f n + f n) + (sum g n + g n)
    rw [sum_add f g n]; ac_rfl
theorem mul_sum (c : R) (f : Nat → R) : ∀ n, c * sum f n = sum (fun i => c * f i) n
  | 0 => mul_zero c
  | n + 1 => by
    show c * (sum f n + f n) = sum _ n + c * f n
    rw [mul_add, mul_sum c f n]
theorem sum_mul (c : R) (f : Nat → R) (n : Nat) : sum f n * c = sum (fun i => f i * c) n := by
  rw [mul_comm, mul_sum]; exact sum_congr n fun i _ => mul_comm _ _
theorem sum_neg (f : Nat → R) : ∀ n, sum (fun i => -f i) n = -sum f n
  | 0 => neg_zero.symm
  | n + 1 => by
    show sum _ n + -f n = -(sum f n + f n)
    rw [sum_neg f n, neg_add_eq]
theorem sum_front (f : Nat → R) : ∀ n, sum f (n + 1) = f 0 + sum (fun i => f (i + 1)) n
  | 0 => by show 0 + f 0 = f 0 + 0; rw [zero_add, add_zero]
  | n + 1 => by
    show sum f (n + 1) + f (n + 1) = f 0 + (sum _ n + f (n + 1))
    rw [sum_front f n]; ac_rfl
theorem sum_rev (f : Nat → R) : ∀ n, sum f (n + 1) = sum (fun i => f (n - i)) (n + 1)
  | 0 => rfl
  | n + 1 => by
    rw [sum_front (fun i => f (n + 1 - i)) (n + 1)]
    show sum f (n + 1) + f (n + 1) = _
    rw [sum_rev f n, add_comm]
    have : sum (fun i => f (n - i)) (n + 1) = sum (fun i => f (n + 1 - (i + 1))) (n + 1) := sum_congr _ fun i _ => by
      show f (n - i) = f (n + 1 - (i + 1)); congr 1; omega
    rw [this]; rfl
/-- the triangle, by rows and by columns -/
theorem sum_tri (A : Nat → Nat → R) : ∀ n, sum (fun i => sum (fun j => A i j) (i + 1)) n = sum (fun j => sum (fun l => A (j + l) j) (n - j)) n
  | 0 => rfl
  | n + 1 => by
    show sum _ n + sum (fun j => A n j) (n + 1) = sum _ n + sum (fun l => A (n + l) n) (n + 1 - n)
    rw [sum_tri A n]
    have h1 : sum (fun j => sum (fun l => A (j + l) j) (n + 1 - j)) n = sum (fun j => sum (fun l => A (j + l) j) (n - j) + A n j) n :=
      sum_congr n fun j hj => by
        have e : n + 1 - j = (n - j) + 1 := by omega
        rw [e]
        show sum _ (n - j) + A (j + (n - j)) j = _
        rw [show j + (n - j) = n by omega]
    rw [h1, sum_add]
    have h2 : sum (fun l => A (n + l) n) (n + 1 - n) = A n n := by
      rw [show n + 1 - n = 1 by omega]
      show 0 + A (n + 0) n = _
      rw [zero_add]; rfl
    rw [h2]
    show _ + (sum (fun j => A n j) n + A n n) = _
    ac_rfl
/-- only one term stands -/
theorem sum_one {f : Nat → R} {k : Nat} : ∀ n, k < n → (∀ i, i < n → i ≠ k → f i = 0) → sum f n = f k
  | 0, h, _ => by omega
  | n + 1, h, hz => by
    show sum f n + f n = f k
    by_cases e : k = n
    · subst e; rw [sum_zero' k (fun i hi => hz i (by omega) (by omega)), zero_add]
    · rw [hz n (by omega) (by omega), add_zero]
      exact sum_one n (by omega) fun i hi hk => hz i (by omega) hk
/-- beyond n there is nothing -/
theorem sum_ext {f : Nat → R} {n : Nat} : ∀ m, (∀ i, n ≤ i → i < n + m → f i = 0) → sum f (n + m) = sum f n
  | 0, _ => rfl
  | m + 1, h => by
    show sum f (n + m) + f (n + m) = _
    rw [h (n + m) (by omega) (by omega), add_zero]
    exact sum_ext m fun i h1 h2 => h i h1 (by omega)
theorem sum_split (f : Nat → R) (n : Nat) : ∀ m, sum f (n + m) = sum f n + sum (fun i => f (n + i)) m
  | 0 => (add_zero _).symm
  | m + 1 => by
    show sum f (n + m) + f (n + m) = sum f n + (sum _ m + f (n + m))
    rw [sum_split f n m]; ac_rfl

/-- powers -/
def pw (a : R) : Nat → R
  | 0 => 1
  | n + 1 => pw a n * a
theorem pw_zero (a : R) : pw a 0 = 1 := rfl
theorem pw_one (a : R) : pw a 1 = a := one_mul a
theorem pw_succ (a : R) (n : Nat) : pw a (n + 1) = pw a n * a := rfl
theorem pw_add (a : R) (m : Nat) : ∀ n, pw a (m + n) = pw a m * pw a n
  | 0 => (mul_one _).symm
  | n + 1 => by show pw a (m + n) * a = pw a m * (pw a n * a); rw [pw_add a m n, mul_assoc]
theorem one_pw : ∀ n, pw (1 : R) n = 1
  | 0 => rfl
  | n + 1 => by show pw 1 n * 1 = 1; rw [one_pw n, mul_one]
theorem zero_pw : ∀ n, 0 < n → pw (0 : R) n = 0
  | 0, h => by omega
  | n + 1, _ => mul_zero _
theorem mul_pw (a b : R) : ∀ n, pw (a * b) n = pw a n * pw b n
  | 0 => (one_mul _).symm
  | n + 1 => by show pw (a * b) n * (a * b) = (pw a n * a) * (pw b n * b); rw [mul_pw a b n]; ac_rfl
theorem pw_mul (a : R) (m : Nat) : ∀ n, pw a (m * n) = pw (pw a m) n
  | 0 => rfl
  | n + 1 => by rw [Nat.mul_succ, pw_add, pw_mul a m n]; rfl

/-- multiples -/
def nat : Nat → R
  | 0 => 0
  | n + 1 => nat n + 1
theorem nat_add (m : Nat) : ∀ n, (nat (m + n) : R) = nat m + nat n
  | 0 => (add_zero _).symm
  | n + 1 => by show nat (m + n) + 1 = nat m + (nat n + 1); rw [nat_add m n, add_assoc]
theorem nat_mul (m : Nat) : ∀ n, (nat (m * n) : R) = nat m * nat n
  | 0 => (mul_zero _).symm
  | n + 1 => by rw [Nat.mul_succ, nat_add, nat_mul m n]; show _ = nat m * (nat n + 1); rw [mul_add, mul_one]
theorem nat_one : (nat 1 : R) = 1 := zero_add 1
theorem nat_zero : (nat 0 : R) = 0 := rfl
end CR

/-- the binomial numbers -/
def choose : Nat → Nat → Nat
  | _, 0 => 1
  | 0, _ + 1 => 0
  | n + 1, k + 1 => choose n k + choose n (k + 1)
theorem choose_zero (n : Nat) : choose n 0 = 1 := by cases n <;> rfl
theorem choose_gt : ∀ n k, n < k → choose n k = 0
  | 0, k + 1, _ => rfl
  | n + 1, k + 1, h => by show choose n k + choose n (k + 1) = 0; rw [choose_gt n k (by omega), choose_gt n (k + 1) (by omega)]
theorem choose_self : ∀ n, choose n n = 1
  | 0 => rfl
  | n + 1 => by show choose n n + choose n (n + 1) = 1; rw [choose_self n, choose_gt n (n + 1) (by omega)]
theorem choose_mul : ∀ n k, (k + 1) * choose (n + 1) (k + 1) = (n + 1) * choose n k
  | 0, 0 => rfl
  | 0, k + 1 => by show (k + 1 + 1) * (choose 0 (k + 1) + choose 0 (k + 2)) = _; simp [choose]
  | n + 1, 0 => by
    have := choose_mul n 0
    show (0 + 1) * (choose (n + 1) 0 + choose (n + 1) (0 + 1)) = _
    rw [choose_zero] at *
    rw [Nat.mul_add, this]; omega
  | n + 1, k + 1 => by
    have h1 := choose_mul n k
    have h2 := choose_mul n (k + 1)
    show (k + 1 + 1) * (choose (n + 1) (k + 1) + choose (n + 1) (k + 1 + 1)) = (n + 1 + 1) * choose (n + 1) (k + 1)
    have h3 : choose (n + 1) (k + 1) = choose n k + choose n (k + 1) := rfl
    rw [Nat.mul_add, h2]
    have h4 : (k + 1 + 1) * choose (n + 1) (k + 1) = (k + 1) * choose (n + 1) (k + 1) + choose (n + 1) (k + 1) := by rw [Nat.add_mul (k + 1) 1, Nat.one_mul]
    rw [h4, h1]
    have h5 : (n + 1 + 1) * choose (n + 1) (k + 1) = (n + 1) * choose (n + 1) (k + 1) + choose (n + 1) (k + 1) := by rw [Nat.add_mul (n + 1) 1, Nat.one_mul]
    rw [h5, h3, Nat.mul_add]; omega

namespace CR
variable {R : Type} [CR R]
theorem binomial (a b : R) : ∀ n, pw (a + b) n = sum (fun k => nat (choose n k) * (pw a k * pw b (n - k))) (n + 1)
  | 0 => by
    show (1 : R) = 0 + nat (choose 0 0) * (pw a 0 * pw b 0)
    rw [zero_add]; show (1 : R) = nat 1 * (1 * 1); rw [nat_one, one_mul, one_mul]
  | n + 1 => by
    show pw (a + b) n * (a + b) = _
    rw [binomial a b n, mul_add]
    rw [sum_front (fun k => nat (choose (n + 1) k) * (pw a k * pw b (n + 1 - k)))]
    have hA : sum (fun k => nat (choose n k) * (pw a k * pw b (n - k))) (n + 1) * a =
        sum (fun k => nat (choose n k) * (pw a (k + 1) * pw b (n + 1 - (k + 1)))) (n + 1) := by
      rw [sum_mul]; refine sum_congr _ fun k hk => ?_
      rw [show n + 1 - (k + 1) = n - k by omega, pw_succ]; ac_rfl
    have hB : sum (fun k => nat (choose n k) * (pw a k * pw b (n - k))) (n + 1) * b =
        sum (fun k => nat (choose n (k + 1)) * (pw a (k + 1) * pw b (n + 1 - (k + 1)))) (n + 1) + pw b (n + 1) := by
      rw [sum_mul, sum_front]
      have h0 : nat (choose n 0) * (pw a 0 * pw b (n - 0)) * b = pw b (n + 1) := by
        rw [choose_zero, nat_one, one_mul, pw_zero, one_mul]; rfl
      rw [h0, add_comm]
      congr 1
      show _ = sum _ n + nat (choose n (n + 1)) * _
      rw [choose_gt n (n + 1) (by omega), nat_zero, zero_mul, add_zero]
      refine sum_congr _ fun k hk => ?_
      rw [show n + 1 - (k + 1) = n - (k + 1) + 1 by omega, pw_succ b]; ac_rfl
    rw [hA, hB]
    have h0 : nat (choose (n + 1) 0) * (pw a 0 * pw b (n + 1 - 0)) = pw b (n + 1) := by
      rw [choose_zero, nat_one, one_mul, pw_zero, one_mul]; rfl
    rw [h0, ← add_assoc, ← sum_add, add_comm]
    congr 1
    refine sum_congr _ fun k hk => ?_
    show _ = nat (choose n k + choose n (k + 1)) * _
    rw [nat_add, add_mul]
end CR

def IsPr (p : Nat) : Prop := 2 ≤ p ∧ ∀ d, d ∣ p → d = 1 ∨ d = p

theorem IsPr.coprime {p a : Nat} (hp : IsPr p) (h : ¬ p ∣ a) : Nat.Coprime p a := by
  rcases hp.2 _ (Nat.gcd_dvd_left p a) with h1 | h1
  · exact h1
  · exact absurd (h1 ▸ Nat.gcd_dvd_right p a) h
theorem IsPr.dvd_mul {p a b : Nat} (hp : IsPr p) (h : p ∣ a * b) : p ∣ a ∨ p ∣ b := by
  by_cases ha : p ∣ a
  · exact Or.inl ha
  · exact Or.inr ((hp.coprime ha).dvd_of_dvd_mul_left h)
theorem IsPr.dvd_choose {p k : Nat} (hp : IsPr p) (h0 : 0 < k) (h1 : k < p) : p ∣ choose p k := by
  obtain ⟨q, rfl⟩ : ∃ q, p = q + 1 := ⟨p - 1, by have := hp.1; omega⟩
  obtain ⟨j, rfl⟩ : ∃ j, k = j + 1 := ⟨k - 1, by omega⟩
  have h : (q + 1) ∣ (j + 1) * choose (q + 1) (j + 1) := ⟨_, choose_mul q j⟩
  rcases hp.dvd_mul h with h | h
  · exact absurd (Nat.le_of_dvd (by omega) h) (by omega)
  · exact h

namespace CR
variable {R : Type} [CR R]
/-- the power by a prime of a sum, but for a multiple of the prime -/
theorem frob_add {p : Nat} (hp : IsPr p) (a b : R) : ∃ c : R, pw (a + b) p = pw a p + pw b p + nat p * c := by
  obtain ⟨q, rfl⟩ : ∃ q, p = q + 1 := ⟨p - 1, by have := hp.1; omega⟩
  rw [binomial, sum_front]
  show ∃ c, _ + (sum _ q + nat (choose (q + 1) (q + 1)) * (pw a (q + 1) * pw b (q + 1 - (q + 1)))) = _
  have h0 : nat (choose (q + 1) 0) * (pw a 0 * pw b (q + 1 - 0)) = pw b (q + 1) := by
    rw [choose_zero, nat_one, one_mul, pw_zero, one_mul]; rfl
  have h1 : nat (choose (q + 1) (q + 1)) * (pw a (q + 1) * pw b (q + 1 - (q + 1))) = pw a (q + 1) := by
    rw [choose_self, nat_one, one_mul, Nat.sub_self, pw_zero, mul_one]
  rw [h0, h1]
  refine ⟨sum (fun k => nat (choose (q + 1) (k + 1) / (q + 1)) * (pw a (k + 1) * pw b (q + 1 - (k + 1)))) q, ?_⟩
  rw [mul_sum]
  have : sum (fun i => nat (choose (q + 1) (i + 1)) * (pw a (i + 1) * pw b (q + 1 - (i + 1)))) q =
      sum (fun i => nat (q + 1) * (nat (choose (q + 1) (i + 1) / (q + 1)) * (pw a (i + 1) * pw b (q + 1 - (i + 1))))) q := by
    refine sum_congr _ fun k hk => ?_
    rw [← mul_assoc (nat (q + 1)), ← nat_mul, Nat.mul_div_cancel' (hp.dvd_choose (by omega) (by omega))]
  rw [this]; ac_rfl
end CR
end Alg
