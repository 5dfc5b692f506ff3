/- Orders of elements and square roots, in the field of a prime: in plain words. Square roots in the field of a prime, by Tonelli and Shanks: in plain words. Slices of numbers of any kind: one that is read, one that the call grows. A number as a product of primes, rising: in plain words. The search for an element's order: in plain words. Contract of prime.Factor. -/
import Derived.Test.YtbnjmeeaaieicaaDoorE2
import Derived.Test.YtbnjmeeaaieicaaDoorE0
import Derived.IntWalk
section
section
open Alg
namespace Alg
open Poly
/-! ### orders -/
/-- n is the least power of a that is 1 -/
def Ord (p a n : Nat) : Prop := 0 < n ∧ a ^ n % p = 1 ∧ ∀ m, 0 < m → a ^ m % p = 1 → n ≤ m
theorem Ord.unique {p a n m : Nat} (h : Ord p a n) (k : Ord p a m) : n = m := Nat.le_antisymm (h.2.2 m k.1 k.2.1) (k.2.2 n h.1 h.2.1)
theorem pow_one_mul {p a n : Nat} (h : a ^ n % p = 1) (k : Nat) : a ^ (n * k) % p = 1 := by
  have h1 : 1 % p = 1 := by rw [← h, Nat.mod_mod]
  rw [Nat.pow_mul, Nat.pow_mod, h, Nat.one_pow, h1]
theorem pow_gcd {p a : Nat} : ∀ n m : Nat, a ^ n % p = 1 → a ^ m % p = 1 → a ^ Nat.gcd n m % p = 1 := by
  intro n m
  induction n, m using Nat.gcd.induction with
  | H0 m => intro _ h; rw [Nat.gcd_zero_left]; exact h
  | H1 n m hn ih =>
    intro h1 h2
    rw [Nat.gcd_rec]
    refine ih ?_ h1
    have e : m = n * (m / n) + m % n := (Nat.div_add_mod m n).symm
    rw [e, Nat.pow_add, Nat.mul_mod, pow_one_mul h1, Nat.one_mul, Nat.mod_mod] at h2
    exact h2
theorem ord_of {p a n : Nat} (h0 : 0 < n) (h1 : a ^ n % p = 1) (h : ∀ y, IsPr y → y ∣ n → a ^ (n / y) % p ≠ 1) : Ord p a n := by
  refine ⟨h0, h1, fun m hm hm1 => ?_⟩
  rcases Nat.lt_or_ge m n with hlt | hge
  · exfalso
    have hg := pow_gcd n m h1 hm1
    have hgn := Nat.gcd_dvd_left n m
    have hgm : Nat.gcd n m ≤ m := Nat.le_of_dvd hm (Nat.gcd_dvd_right n m)
    have hg0 : 0 < Nat.gcd n m := Nat.gcd_pos_of_pos_left _ h0
    generalize Nat.gcd n m = g at *
    obtain ⟨k, rfl⟩ := hgn
    have hk : 2 ≤ k := by
      rcases Nat.lt_or_ge k 2 with h | h
      · have : g * k ≤ g * 1 := Nat.mul_le_mul_left g (by omega)
        omega
      · exact h
    obtain ⟨y, hy, ⟨j, rfl⟩, _⟩ := minFac_ex k hk
    have hy0 : 0 < y := by have := hy.1; omega
    refine h y hy ⟨g * j, by ac_rfl⟩ ?_
    rw [show g * (y * j) = y * (g * j) by ac_rfl, Nat.mul_div_cancel_left _ hy0]
    exact pow_one_mul hg j
  · exact hge
/-- what is in order at y stays so when x is divided out -/
theorem bad_step {p a n x y : Nat} (hx : x ∣ n) (hx0 : 0 < x) (hy0 : 0 < y) (h : y ∣ n → a ^ (n / y) % p ≠ 1) : y ∣ n / x → a ^ (n / x / y) % p ≠ 1 := by
  intro hy e
  obtain ⟨m, rfl⟩ := hx
  rw [Nat.mul_div_cancel_left _ hx0] at hy e
  obtain ⟨k, rfl⟩ := hy
  rw [Nat.mul_div_cancel_left _ hy0] at e
  refine h ⟨x * k, by ac_rfl⟩ ?_
  rw [show x * (y * k) = y * (k * x) by ac_rfl, Nat.mul_div_cancel_left _ hy0]
  exact pow_one_mul e x
/-- each prime is in order, or all of it that is in n is in what is left -/
def Gd (p a n left : Nat) : Prop := ∀ y, IsPr y → (y ∣ n → a ^ (n / y) % p ≠ 1) ∨ (∀ e, y ^ e ∣ n → y ^ e ∣ left)
theorem Gd.start (p a n : Nat) : Gd p a n n := fun _ _ => Or.inr fun _ h => h
theorem Gd.done {p a n : Nat} (h : Gd p a n 1) : ∀ y, IsPr y → y ∣ n → a ^ (n / y) % p ≠ 1 := fun y hy hn => by
  rcases h y hy with h1 | h1
  · exact h1 hn
  · have := h1 1 (by rwa [Nat.pow_one])
    rw [Nat.pow_one] at this
    have := Nat.le_of_dvd Nat.one_pos this
    have := hy.1
    omega
theorem pow_dvd_cut {y d e m : Nat} (hy : IsPr y) (hd : IsPr d) (hne : y ≠ d) (h : y ^ e ∣ d * m) : y ^ e ∣ m := by
  have hyd : ¬ y ∣ d := fun h => by
    rcases hd.2 y h with h | h
    · have := hy.1; omega
    · exact hne h
  exact Nat.Coprime.dvd_of_dvd_mul_left (Nat.Coprime.pow_left e (hy.coprime hyd)) h
theorem Gd.drop {p a n left d : Nat} (h : Gd p a n left) (hd : IsPr d) (hl : d ∣ left) (hne : a ^ (n / d) % p ≠ 1) : Gd p a n (left / d) := by
  intro y hy
  by_cases e : y = d
  · subst e; exact Or.inl fun _ => hne
  · rcases h y hy with h1 | h1
    · exact Or.inl h1
    · right
      intro k hk
      have := h1 k hk
      obtain ⟨m, rfl⟩ := hl
      have hd0 : 0 < d := by have := hd.1; omega
      rw [Nat.mul_div_cancel_left _ hd0]
      exact pow_dvd_cut hy hd e this
theorem Gd.cut {p a n left d : Nat} (h : Gd p a n left) (hd : IsPr d) (hl : d ∣ left) (hn : left ∣ n) (he : a ^ (n / d) % p = 1) : Gd p a (n / d) (left / d) := by
  have hd0 : 0 < d := by have := hd.1; omega
  intro y hy
  have hy0 : 0 < y := by have := hy.1; omega
  by_cases e : y = d
  · subst e
    rcases h y hy with h1 | h1
    · exact absurd he (h1 (Nat.dvd_trans hl hn))
    · right
      intro k hk
      obtain ⟨m, rfl⟩ := hl
      obtain ⟨j, rfl⟩ := hn
      rw [Nat.mul_assoc, Nat.mul_div_cancel_left _ hd0] at hk
      rw [Nat.mul_div_cancel_left _ hd0]
      have h2 := h1 (k + 1) (by rw [Nat.pow_succ, Nat.mul_comm (y ^ k) y, Nat.mul_assoc]; exact Nat.mul_dvd_mul_left y hk)
      rw [Nat.pow_succ, Nat.mul_comm (y ^ k) y] at h2
      exact Nat.dvd_of_mul_dvd_mul_left hd0 h2
  · rcases h y hy with h1 | h1
    · exact Or.inl (bad_step (Nat.dvd_trans hl hn) hd0 hy0 h1)
    · right
      intro k hk
      have h2 := h1 k (Nat.dvd_trans hk (Nat.div_dvd_of_dvd (Nat.dvd_trans hl hn)))
      obtain ⟨m, rfl⟩ := hl
      rw [Nat.mul_div_cancel_left _ hd0]
      exact pow_dvd_cut hy hd e h2
/-- the least factor is a prime -/
theorem pr_of_least {d left : Nat} (h2 : 2 ≤ d) (hd : d ∣ left) (h : ∀ c, 2 ≤ c → c < d → ¬ c ∣ left) : IsPr d :=
  ⟨h2, fun c hc => by
    have hc0 : c ≠ 0 := fun e => by subst e; have := Nat.eq_zero_of_zero_dvd hc; omega
    have hcd : c ≤ d := Nat.le_of_dvd (by omega) hc
    by_cases h1 : c = 1
    · exact Or.inl h1
    · right
      rcases Nat.lt_or_ge c d with h3 | h3
      · exact absurd (Nat.dvd_trans hc hd) (h c (by omega) h3)
      · omega⟩
theorem sq_least {d left : Nat} (h : ∀ c, 2 ≤ c → c < d → ¬ c ∣ left) (hsq : left < d * d) : ∀ c, 2 ≤ c → c < left → ¬ c ∣ left := by
  intro c hc hcl ⟨k, hk⟩
  rcases Nat.lt_or_ge c d with h1 | h1
  · exact h c hc h1 ⟨k, hk⟩
  · have hk2 : 2 ≤ k := by
      rcases Nat.lt_or_ge k 2 with h2 | h2
      · have : c * k ≤ c * 1 := Nat.mul_le_mul_left c (by omega)
        omega
      · exact h2
    have hkd : k < d := by
      rcases Nat.lt_or_ge k d with h2 | h2
      · exact h2
      · have := Nat.mul_le_mul h1 h2; omega
    exact h k hk2 hkd ⟨c, by rw [hk, Nat.mul_comm]⟩
/-! ### roots of polynomials -/
section
variable {p : Nat} [NeZero p]
theorem len_lin (hp : IsPr p) (a : Fp p) : (X 1 + -C a : Poly (Fp p)).len = 2 := by
  haveI := Fp.isFd hp
  refine len_eq ((bd_X 1).add ((bd_C a).neg.mono (by omega))) (Or.inr ?_)
  show (X 1 + -C a : Poly (Fp p)).c 1 ≠ 0
  rw [c_add, c_neg, c_X, c_C, if_pos rfl, if_neg (by omega), CR.neg_zero, CR.add_zero]
  exact IsFd.one_ne
theorem dv_root (hp : IsPr p) {f : Poly (Fp p)} {a : Fp p} (h : ev a f = 0) : Dv (X 1 + -C a) f := by
  haveI := Fp.isFd hp
  have hl := len_lin hp a
  have hne : (X 1 + -C a : Poly (Fp p)) ≠ 0 := fun e => by rw [e, len_zero] at hl; cases hl
  obtain ⟨q, r, h1, h2⟩ := div f (X 1 + -C a) hne
  rw [hl] at h2
  have h3 := len_le_one (f := r) (by omega)
  have h4 : ev a f = ev a q * ev a (X 1 + -C a) + ev a r := by rw [h1, ev_add, ev_mul]
  rw [h, ev_add, ev_neg, ev_C, ev_X, CR.pw_one, CR.add_neg, CR.mul_zero, CR.zero_add, h3, ev_C] at h4
  rw [h3, ← h4, C_zero, CR.add_zero] at h1
  rw [h1]
  exact Dv.mul_self _ _
theorem roots_le (hp : IsPr p) : ∀ (n : Nat) (f : Poly (Fp p)), f ≠ 0 → f.len ≤ n + 1 → ∀ l : List (Fp p), l.Nodup → (∀ a ∈ l, ev a f = 0) → l.length ≤ n
  | 0, f, hf, hn, l, _, hr => by
    haveI := Fp.isFd hp
    have h3 := len_le_one (f := f) (by omega)
    match l, hr with
    | [], _ => exact Nat.le_refl _
    | a :: l, hr =>
      have h4 := hr a List.mem_cons_self
      rw [h3, ev_C] at h4
      rw [h4, C_zero] at h3
      exact absurd h3 hf
  | n + 1, f, hf, hn, [], _, _ => Nat.zero_le _
  | n + 1, f, hf, hn, a :: l, hd, hr => by
    haveI := Fp.isFd hp
    obtain ⟨g, rfl⟩ := dv_root hp (hr a List.mem_cons_self)
    have hl := len_lin hp a
    have hne : (X 1 + -C a : Poly (Fp p)) ≠ 0 := fun e => by rw [e, len_zero] at hl; cases hl
    have hg : g ≠ 0 := fun e => hf (by rw [e, CR.mul_zero])
    have h5 := len_mul hne hg
    rw [List.nodup_cons] at hd
    have := roots_le hp n g hg (by rw [h5, hl] at hn; omega) l hd.2 (fun b hb => by
      have h6 := hr b (List.mem_cons_of_mem _ hb)
      rw [ev_mul, ev_add, ev_neg, ev_C, ev_X, CR.pw_one] at h6
      rcases Fp.mul_eq_zero hp h6 with h7 | h7
      · have := CR.add_neg_eq_zero h7
        subst this
        exact absurd hb hd.1
      · exact h7)
    rw [List.length_cons]; omega
/-- half of the others are no squares -/
theorem nonres (hp : IsPr p) (h3 : 2 < p) : ∃ z, 2 ≤ z ∧ z < p ∧ z ^ ((p - 1) / 2) % p ≠ 1 := by
  haveI := Fp.isFd hp
  refine Classical.byContradiction fun hno => ?_
  have hall : ∀ z, 1 ≤ z → z < p → z ^ ((p - 1) / 2) % p = 1 := fun z h1 h2 => by
    by_cases e : z = 1
    · subst e; rw [Nat.one_pow, Nat.mod_eq_of_lt (by omega)]
    · exact Classical.byContradiction fun h => hno ⟨z, by omega, h2, h⟩
  have hh : 0 < (p - 1) / 2 := by omega
  have hh2 : (p - 1) / 2 < p - 1 := by omega
  generalize (p - 1) / 2 = h at *
  have hc : (X h + -1 : Poly (Fp p)).c h = 1 := by
    rw [c_add, c_neg, c_X, c_one, if_pos rfl, if_neg (by omega), CR.neg_zero, CR.add_zero]
  have hf : (X h + -1 : Poly (Fp p)) ≠ 0 := fun e => by
    rw [e, c_zero] at hc
    exact Fp.one_ne_zero hp hc.symm
  have hlen : (X h + -1 : Poly (Fp p)).len ≤ h + 1 := len_le ((bd_X h).add ((bd_C (1 : Fp p)).neg.mono (by omega)))
  have := roots_le hp h _ hf hlen ((List.range (p - 1)).map fun i => (Fp.of (i + 1) : Fp p)) (by
    unfold List.Nodup
    rw [List.pairwise_map]
    refine (List.nodup_range (n := p - 1)).imp_of_mem ?_
    intro i j hi hj hne e
    have hi := List.mem_range.1 hi
    have hj := List.mem_range.1 hj
    have := Fp.of_inj (p := p) (by omega) (by omega) e
    omega) (by
    intro a ha
    obtain ⟨i, hi, rfl⟩ := List.mem_map.1 ha
    have hi := List.mem_range.1 hi
    have h1 := hall (i + 1) (by omega) (by omega)
    rw [ev_add, ev_neg, ev_X, ev_one, ← Fp.of_pow]
    have : (Fp.of ((i + 1) ^ h) : Fp p) = 1 := by
      rw [← Fp.of_one]
      exact Fp.of_eq.2 (by rw [h1, Nat.mod_eq_of_lt (by omega)])
    rw [this, CR.add_neg])
  rw [List.length_map, List.length_range] at this
  omega
omit [NeZero p] in
theorem odd_of (hp : IsPr p) (h3 : 2 < p) : p % 2 = 1 := by
  rcases Nat.mod_two_eq_zero_or_one p with h | h
  · rcases hp.2 2 (Nat.dvd_of_mod_eq_zero h) with h1 | h1 <;> omega
  · exact h
theorem sq_oneF (hp : IsPr p) {x : Fp p} (h : x * x = 1) : x = 1 ∨ x = -1 := by
  have : (x + -1) * (x + 1) = 0 := by
    rw [CR.mul_add, CR.add_mul, CR.neg_mul, CR.one_mul, CR.mul_one, h, CR.add_assoc, ← CR.add_assoc (-x), CR.neg_add, CR.zero_add, CR.add_neg]
  rcases Fp.mul_eq_zero hp this with h1 | h1
  · exact Or.inl (CR.add_neg_eq_zero h1)
  · exact Or.inr (CR.neg_eq (by rw [CR.add_comm]; exact h1))
theorem sq_eq (hp : IsPr p) {x y : Fp p} (h : x * x = y * y) : x = y ∨ x = -y := by
  have : (x + -y) * (x + y) = 0 := by
    rw [CR.mul_add, CR.add_mul, CR.add_mul, CR.neg_mul, CR.neg_mul, h, CR.mul_comm y x, CR.add_assoc, ← CR.add_assoc (-(x * y)), CR.neg_add, CR.zero_add, CR.add_neg]
  rcases Fp.mul_eq_zero hp this with h1 | h1
  · exact Or.inl (CR.add_neg_eq_zero h1)
  · exact Or.inr (CR.neg_eq (by rw [CR.add_comm]; exact h1))
theorem v_neg_one (hp : IsPr p) : (-1 : Fp p).v = p - 1 := by
  have := hp.1
  rw [Fp.v_neg, Fp.v_one, Nat.mod_eq_of_lt (show 1 < p by omega), Nat.mod_eq_of_lt (by omega)]
theorem neg_one_ne (hp : IsPr p) (h3 : 2 < p) : (-1 : Fp p) ≠ 1 := fun e => by
  have h1 := congrArg Fp.v e
  rw [v_neg_one hp, Fp.v_one, Nat.mod_eq_of_lt (by omega)] at h1
  omega
theorem of_ne {a : Nat} (h0 : a ≠ 0) (ha : a < p) : (Fp.of a : Fp p) ≠ 0 := fun e => by
  have := Nat.le_of_dvd (by omega) (Fp.of_eq_zero.1 e)
  omega
theorem powM_of (a n : Nat) : (Fp.of (powM p a n) : Fp p) = CR.pw (Fp.of a) n := by rw [powM, Fp.of_mod, Fp.of_pow]
theorem powM_eq_one (hp : IsPr p) {a n : Nat} : powM p a n = 1 ↔ CR.pw (Fp.of a : Fp p) n = 1 := by
  have h1 := hp.1
  rw [← Fp.of_pow, ← Fp.of_one, Fp.of_eq, Nat.mod_eq_of_lt (show 1 < p by omega)]
  rfl
/-- Fermat -/
theorem fermat_N (hp : IsPr p) {a : Nat} (h0 : a ≠ 0) (ha : a < p) : powM p a (p - 1) = 1 := (powM_eq_one hp).2 (Fp.fermat1 hp (of_ne h0 ha))
theorem fermat_P (hp : IsPr p) {a : Nat} (ha : a < p) : powM p a p = a := by
  have h := Fp.fermat hp (Fp.of a : Fp p)
  rw [← powM_of] at h
  exact Fp.of_inj (powM_lt p a p (by have := hp.1; omega)) ha h
/-- Euler's criterion -/
theorem half_pm (hp : IsPr p) (h3 : 2 < p) {a : Nat} (h0 : a ≠ 0) (ha : a < p) : CR.pw (Fp.of a : Fp p) ((p - 1) / 2) = 1 ∨ CR.pw (Fp.of a : Fp p) ((p - 1) / 2) = -1 := by
  have ho := odd_of hp h3
  refine sq_oneF hp ?_
  rw [← CR.pw_add, show (p - 1) / 2 + (p - 1) / 2 = p - 1 by omega]
  exact Fp.fermat1 hp (of_ne h0 ha)
end
end Alg
end
section
open Alg
namespace Alg
open CR
/-- the state of the search: X X is a T; T to the power 2^(s-1) is 1, C to it is -1 -/
structure TS (p : Nat) [NeZero p] (a s X T C : Nat) : Prop where
  s1 : 1 ≤ s
  hX : X < p
  hT : T < p
  hC : C < p
  x : (Fp.of X : Fp p) * Fp.of X = Fp.of a * Fp.of T
  t : pw (Fp.of T : Fp p) (2 ^ (s - 1)) = 1
  c : pw (Fp.of C : Fp p) (2 ^ (s - 1)) = -1
section
variable {p : Nat} [NeZero p]
theorem TS.start (hp : IsPr p) {a z s odd : Nat} (hs : 1 ≤ s) (e : p - 1 = 2 ^ s * odd) (ho : odd % 2 = 1) (ha : pw (Fp.of a : Fp p) ((p - 1) / 2) = 1) (hz : pw (Fp.of z : Fp p) ((p - 1) / 2) = -1) :
    TS p a s (powM p a ((odd + 1) / 2)) (powM p a odd) (powM p z odd) := by
  have h0 : 0 < p := by have := hp.1; omega
  have eh : (p - 1) / 2 = odd * 2 ^ (s - 1) := by
    obtain ⟨r, rfl⟩ : ∃ r, s = r + 1 := ⟨s - 1, by omega⟩
    rw [e, Nat.pow_succ, Nat.add_sub_cancel, Nat.mul_comm (2 ^ r) 2, Nat.mul_assoc, Nat.mul_div_cancel_left _ (by omega), Nat.mul_comm]
  refine ⟨hs, powM_lt _ _ _ h0, powM_lt _ _ _ h0, powM_lt _ _ _ h0, ?_, ?_, ?_⟩
  · rw [powM_of, powM_of, ← pw_add, show (odd + 1) / 2 + (odd + 1) / 2 = odd + 1 by omega, pw_succ, CR.mul_comm]
  · rw [powM_of, ← pw_mul, ← eh]; exact ha
  · rw [powM_of, ← pw_mul, ← eh]; exact hz
theorem TS.done {a s X C : Nat} (h : TS p a s X 1 C) : (Fp.of X : Fp p) * Fp.of X = Fp.of a := by
  rw [h.x, Fp.of_one, CR.mul_one]
theorem TS.end1 {a X T C : Nat} (hp : IsPr p) (h : TS p a 1 X T C) : T = 1 := by
  have h1 := h.t
  have := hp.1
  rw [Nat.sub_self, Nat.pow_zero, pw_one, ← Fp.of_one] at h1
  exact Fp.of_inj h.hT (by omega) h1
theorem pw_two (x : Fp p) (i : Nat) (hi : 1 ≤ i) : pw x (2 ^ i) = pw x (2 ^ (i - 1)) * pw x (2 ^ (i - 1)) := by
  obtain ⟨r, rfl⟩ : ∃ r, i = r + 1 := ⟨i - 1, by omega⟩
  rw [Nat.add_sub_cancel, ← pw_add, Nat.pow_succ, Nat.mul_two]
theorem pw_more {x : Fp p} {i j : Nat} (h : pw x (2 ^ i) = 1) (hij : i ≤ j) : pw x (2 ^ j) = 1 := by
  rw [show j = i + (j - i) by omega, Nat.pow_add, pw_mul, h, one_pw]
theorem TS.lt {a s X T C i : Nat} (h : TS p a s X T C) (hi : 1 ≤ i) (h2 : pw (Fp.of T : Fp p) (2 ^ (i - 1)) ≠ 1) : i < s := by
  rcases Nat.lt_or_ge i s with h3 | h3
  · exact h3
  · exact absurd (pw_more h.t (by omega)) h2
theorem minus_minus : (-1 : Fp p) * -1 = 1 := by rw [CR.neg_mul, CR.one_mul, CR.neg_neg]
theorem TS.step (hp : IsPr p) {a s X T C i B : Nat} (h : TS p a s X T C) (hi : 1 ≤ i) (hs : i < s) (h1 : pw (Fp.of T : Fp p) (2 ^ i) = 1) (h2 : pw (Fp.of T : Fp p) (2 ^ (i - 1)) ≠ 1)
    (hB : (Fp.of B : Fp p) = pw (Fp.of C) (2 ^ (s - i - 1))) : TS p a i (mulM p X B) (mulM p T (mulM p B B)) (mulM p B B) := by
  have h0 : 0 < p := by have := hp.1; omega
  have hm : pw (Fp.of T : Fp p) (2 ^ (i - 1)) = -1 := by
    rcases sq_oneF hp (x := pw (Fp.of T : Fp p) (2 ^ (i - 1))) (by rw [← pw_two _ _ hi]; exact h1) with h3 | h3
    · exact absurd h3 h2
    · exact h3
  have hc : pw (Fp.of B * Fp.of B : Fp p) (2 ^ (i - 1)) = -1 := by
    have e : pw (Fp.of C : Fp p) (2 ^ (s - i - 1)) * pw (Fp.of C) (2 ^ (s - i - 1)) = pw (Fp.of C) (2 ^ (s - i)) := (pw_two _ (s - i) (by omega)).symm
    rw [hB, e, ← pw_mul]
    rw [show 2 ^ (s - i) * 2 ^ (i - 1) = 2 ^ (s - 1) by rw [← Nat.pow_add]; congr 1; omega]
    exact h.c
  refine ⟨hi, mulM_lt _ _ _ h0, mulM_lt _ _ _ h0, mulM_lt _ _ _ h0, ?_, ?_, ?_⟩
  · rw [of_mulM, of_mulM, of_mulM, ← CR.mul_assoc (Fp.of a), ← h.x]
    ac_rfl
  · rw [of_mulM, of_mulM, mul_pw, hm, hc, minus_minus]
  · rw [of_mulM]; exact hc
/-- the document's way: by one at a time -/
theorem TS.down1 (hp : IsPr p) {a k X T C : Nat} (h : TS p a (k + 1) X T C) (hk : 1 ≤ k) (h1 : pw (Fp.of T : Fp p) (2 ^ (k - 1)) = 1) : TS p a k X T (mulM p C C) := by
  have h0 : 0 < p := by have := hp.1; omega
  refine ⟨hk, h.hX, h.hT, mulM_lt _ _ _ h0, h.x, h1, ?_⟩
  have := h.c
  rw [Nat.add_sub_cancel] at this
  rw [of_mulM, mul_pw, ← pw_two _ _ hk]; exact this
theorem TS.down2 (hp : IsPr p) {a k X T C : Nat} (h : TS p a (k + 1) X T C) (hk : 1 ≤ k) (h1 : pw (Fp.of T : Fp p) (2 ^ (k - 1)) ≠ 1) : TS p a k (mulM p X C) (mulM p T (mulM p C C)) (mulM p C C) := by
  have h0 : 0 < p := by have := hp.1; omega
  have ht := h.t
  have hc := h.c
  rw [Nat.add_sub_cancel] at ht hc
  have hm : pw (Fp.of T : Fp p) (2 ^ (k - 1)) = -1 := by
    rcases sq_oneF hp (x := pw (Fp.of T : Fp p) (2 ^ (k - 1))) (by rw [← pw_two _ _ hk]; exact ht) with h3 | h3
    · exact absurd h3 h1
    · exact h3
  have hc2 : pw (Fp.of C * Fp.of C : Fp p) (2 ^ (k - 1)) = -1 := by rw [mul_pw, ← pw_two _ _ hk]; exact hc
  refine ⟨hk, mulM_lt _ _ _ h0, mulM_lt _ _ _ h0, mulM_lt _ _ _ h0, ?_, ?_, ?_⟩
  · rw [of_mulM, of_mulM, of_mulM, ← CR.mul_assoc (Fp.of a), ← h.x]
    ac_rfl
  · rw [of_mulM, of_mulM, mul_pw, hm, hc2, minus_minus]
  · rw [of_mulM]; exact hc2
end
/-! ### the lesser root -/
open Classical in
/-- the lesser square root -/
noncomputable def rootN (p a : Nat) : Nat := if h : ∃ x, 0 < x ∧ x < p ∧ x * x % p = a then min (Classical.choose h) (p - Classical.choose h) else 0
theorem min_root {p : Nat} [NeZero p] (hp : IsPr p) {x y : Nat} (hx : x < p) (hy0 : 0 < y) (hy : y < p) (h : (Fp.of x : Fp p) * Fp.of x = Fp.of y * Fp.of y) : min x (p - x) = min y (p - y) := by
  rcases sq_eq hp h with h1 | h1
  · rw [Fp.of_inj hx hy h1]
  · rw [← Fp.of_neg (by omega)] at h1
    have := Fp.of_inj hx (by omega) h1
    omega
theorem rootN_eq {p : Nat} [NeZero p] (hp : IsPr p) {a x : Nat} (ha0 : a ≠ 0) (ha : a < p) (hx : x < p) (h : (Fp.of x : Fp p) * Fp.of x = Fp.of a) : 0 < x ∧ x * x % p = a ∧ min x (p - x) = rootN p a := by
  have hx0 : 0 < x := by
    rcases Nat.eq_zero_or_pos x with e | e
    · subst e
      rw [Fp.of_zero, CR.zero_mul] at h
      exact absurd h.symm (of_ne ha0 ha)
    · exact e
  have hxx : x * x % p = a := by
    rw [← Fp.of_mul, Fp.of_eq, Nat.mod_eq_of_lt ha] at h; exact h
  refine ⟨hx0, hxx, ?_⟩
  have hex : ∃ x, 0 < x ∧ x < p ∧ x * x % p = a := ⟨x, hx0, hx, hxx⟩
  unfold rootN
  rw [dif_pos hex]
  obtain ⟨h1, h2, h3⟩ := Classical.choose_spec hex
  refine min_root hp hx h1 h2 ?_
  rw [← Fp.of_mul, ← Fp.of_mul, Fp.of_eq, hxx, h3]
theorem rootN_spec {p : Nat} [NeZero p] (hp : IsPr p) {a x : Nat} (ha0 : a ≠ 0) (ha : a < p) (hx : x < p) (h : (Fp.of x : Fp p) * Fp.of x = Fp.of a) :
    rootN p a < p ∧ mulM p (rootN p a) (rootN p a) = a ∧ rootN p a ≤ negM p (rootN p a) := by
  obtain ⟨h1, h2, h3⟩ := rootN_eq hp ha0 ha hx h
  rw [← h3]
  have key : ∀ r, 0 < r → r < p → r ≤ p - r → r * r % p = a → r < p ∧ mulM p r r = a ∧ r ≤ negM p r := fun r r0 rp rl rr => ⟨rp, rr, by unfold negM; rw [if_neg (by omega)]; exact rl⟩
  rcases Nat.le_total x (p - x) with h4 | h4
  · rw [Nat.min_eq_left h4]; exact key x h1 hx h4 h2
  · rw [Nat.min_eq_right h4]
    refine key (p - x) (by omega) (by omega) (by omega) ?_
    have : (Fp.of (p - x) : Fp p) * Fp.of (p - x) = Fp.of a := by rw [Fp.of_neg (by omega), CR.neg_mul, CR.mul_neg, CR.neg_neg, h]
    rw [← Fp.of_mul, Fp.of_eq, Nat.mod_eq_of_lt ha] at this
    exact this
end Alg
end
section
open Go Go.RowKit
namespace Alg
/-- v is a slice of numbers: these, each as f says it -/
structure SlF (f : Nat → Value) (w : World) (a : Option Addr) (n cap : Nat) (l : List Nat) : Prop where
  len : l.length = n
  le : n ≤ cap
  cap : cap ≤ 9223372036854775807
  rd : n = 0 ∨ ∃ b off, a = some ⟨b, off, none⟩ ∧ ∀ i, i < n → w.cell? ⟨b, off + i, none⟩ = some (f (nth l i))
theorem SlF.mono {f : Nat → Value} {w w' : World} {a : Option Addr} {n cap : Nat} {l : List Nat} (h : SlF f w a n cap l) (hb : Below w.heap.size w w') : SlF f w' a n cap l where
  len := h.len
  le := h.le
  cap := h.cap
  rd := by
    rcases h.rd with h0 | ⟨b, off, ha, hc⟩
    · exact Or.inl h0
    · exact Or.inr ⟨b, off, ha, fun i hi => (hb.cell (p := ⟨b, off + i, none⟩) (cell_lt (hc i hi))).trans (hc i hi)⟩
/-- a slice of the call's own that grows -/
structure GrF (f : Nat → Value) (w : World) (e : TypeId) (B : Nat) (v : Value) (n : Nat) (l : List Nat) : Prop where
  own : w.ownsRow B e 1 v n (l.map f)
section
variable {f : Nat → Value} {w w' : World} {e : TypeId} {B : Nat} {v : Value} {n : Nat} {l : List Nat}
theorem GrF.nil (f : Nat → Value) (w : World) (e : TypeId) (B : Nat) : GrF f w e B (.slice none 0 0) 0 [] := ⟨World.ownsRow_nil _ _ _ _⟩
theorem GrF.len (h : GrF f w e B v n l) : l.length = n := by
  have := h.own.1; simpa using this
theorem GrF.shape (h : GrF f w e B v n l) :
    (v = .slice none 0 0 ∧ n = 0) ∨ ∃ g cap, v = .slice (some ⟨g, 0, none⟩) n cap ∧ B ≤ g ∧ g < w.heap.size ∧ n ≤ cap ∧ cap ≤ maxLen := by
  rcases h.own.2 with h1 | ⟨g, cap, cur, hv, hb, hg, hnc, hcm, _, _⟩
  · exact Or.inl h1
  · refine Or.inr ⟨g, cap, hv, hb, ?_, hnc, hcm⟩
    rcases Nat.lt_or_ge g w.heap.size with h1 | h1
    · exact h1
    · rw [Array.getElem?_eq_none h1] at hg; exact absurd hg (by simp)
theorem GrF.row (h : GrF f w e B v n l) : ∀ k, v.ownBlock = some k → B ≤ k := by
  intro k hk
  rcases h.shape with ⟨rfl, _⟩ | ⟨g, cap, rfl, hb, _⟩
  · simp [Value.ownBlock] at hk
  · simp [Value.ownBlock] at hk; omega
theorem GrF.mono (h : GrF f w e B v n l) (hb : Below w.heap.size w w') : GrF f w' e B v n l := by
  refine ⟨?_⟩
  refine h.own.kept ⟨hb.os, hb.tape, hb.output, hb.size, fun k hk _ => hb.block k hk⟩ (row := none) ?_
  cases hv : v.ownBlock <;> simp
theorem GrF.drew (h : GrF f w e B v n l) : GrF f w.drew e B v n l := h.mono ⟨rfl, rfl, rfl, Nat.le_refl _, fun _ _ => rfl⟩
theorem GrF.snoc {c : Nat} (h : w.ownsRow B e 1 v (n + 1) (l.map f ++ [f c])) : GrF f w e B v (n + 1) (l ++ [c]) :=
  ⟨by rw [List.map_append]; exact h⟩
theorem GrF.sl (h : GrF f w e B v n l) : ∃ a cap, v = .slice a n cap ∧ SlF f w a n cap l ∧ (n = 0 ∨ ∃ g, a = some ⟨g, 0, none⟩ ∧ B ≤ g) := by
  rcases h.shape with ⟨rfl, rfl⟩ | ⟨g, cap, rfl, hb, _, hnc, hc⟩
  · exact ⟨none, 0, rfl, ⟨h.len, Nat.le_refl _, by omega, Or.inl rfl⟩, Or.inl rfl⟩
  · refine ⟨_, _, rfl, ⟨h.len, hnc, by unfold maxLen at hc; omega, Or.inr ⟨g, 0, rfl, fun i hi => ?_⟩⟩, Or.inr ⟨g, rfl, hb⟩⟩
    have hl := h.len
    have hi' : i < l.length := by omega
    rw [Nat.zero_add, h.own.cellAt i (by omega)]
    simp [nth, List.getD_eq_getElem?_getD, hi']
end
end Alg
end
section
open Alg
namespace Alg
/-- the product of powers -/
def prodE : List Nat → List Nat → Nat
  | y :: l, k :: ks => y ^ k * prodE l ks
  | _, _ => 1
theorem prodE_snoc : ∀ (l ks : List Nat) (y k : Nat), l.length = ks.length → prodE (l ++ [y]) (ks ++ [k]) = prodE l ks * y ^ k
  | [], [], y, k, _ => by simp [prodE]
  | a :: l, b :: ks, y, k, h => by
    have ih := prodE_snoc l ks y k (by simpa using h)
    show a ^ b * prodE (l ++ [y]) (ks ++ [k]) = a ^ b * prodE l ks * y ^ k
    rw [ih, Nat.mul_assoc]
  | [], _ :: _, _, _, h => by simp at h
  | _ :: _, [], _, _, h => by simp at h
theorem dvd_prodE {y : Nat} (hy : IsPr y) : ∀ (l ks : List Nat), (∀ x ∈ l, IsPr x) → y ∣ prodE l ks → y ∈ l
  | [], [], _, h => by
    have := Nat.le_of_dvd Nat.one_pos h
    have := hy.1
    omega
  | [], _ :: _, _, h => by
    have := Nat.le_of_dvd Nat.one_pos h
    have := hy.1
    omega
  | _ :: _, [], _, h => by
    have := Nat.le_of_dvd Nat.one_pos h
    have := hy.1
    omega
  | a :: l, b :: ks, hl, h => by
    rcases hy.dvd_mul h with h1 | h1
    · have h2 : ∀ b, y ∣ a ^ b → y ∣ a := by
        intro b
        induction b with
        | zero =>
          intro h
          have := Nat.le_of_dvd Nat.one_pos h
          have := hy.1
          omega
        | succ b ih =>
          intro h
          rw [Nat.pow_succ] at h
          rcases hy.dvd_mul h with h | h
          · exact ih h
          · exact h
      have h3 := h2 b h1
      rcases (hl a List.mem_cons_self).2 y h3 with h4 | h4
      · have := hy.1; omega
      · rw [h4]; exact List.mem_cons_self
    · exact List.mem_cons_of_mem _ (dvd_prodE hy l ks (fun x hx => hl x (List.mem_cons_of_mem _ hx)) h1)
/-- l are the primes that divide N, rising, ks how often each -/
structure Facs (N : Nat) (l ks : List Nat) : Prop where
  len : l.length = ks.length
  prod : prodE l ks = N
  iff : ∀ y, y ∈ l ↔ IsPr y ∧ y ∣ N
  up : l.Pairwise (· < ·)
  pos : ∀ k ∈ ks, 0 < k
/-- on the way: L is left, the primes below P are done -/
structure FacI (N L P : Nat) (l ks : List Nat) : Prop where
  L0 : 0 < L
  P2 : 2 ≤ P
  len : l.length = ks.length
  prod : prodE l ks * L = N
  none : ∀ c, 2 ≤ c → c < P → ¬ c ∣ L
  pr : ∀ y ∈ l, IsPr y ∧ y < P ∧ y ∣ N
  up : l.Pairwise (· < ·)
  pos : ∀ k ∈ ks, 0 < k
  few : l.length + 2 ≤ P
  sq : L = 1 ∨ (P - 1) * (P - 1) ≤ N
theorem FacI.start {N : Nat} (h : 0 < N) : FacI N N 2 [] [] :=
  ⟨h, Nat.le_refl _, rfl, Nat.one_mul _, fun c h1 h2 => by omega, fun y hy => by simp at hy, List.Pairwise.nil, fun y hy => by simp at hy, by simp, Or.inr h⟩
theorem FacI.LN {N L P : Nat} {l ks : List Nat} (h : FacI N L P l ks) (hN : 0 < N) : L ≤ N :=
  Nat.le_of_dvd hN ⟨prodE l ks, by rw [← h.prod, Nat.mul_comm]⟩
theorem FacI.PL {N L P : Nat} {l ks : List Nat} (h : FacI N L P l ks) (h1 : 1 < L) : P ≤ L := by
  rcases Nat.lt_or_ge L P with h2 | h2
  · exact absurd (Nat.dvd_refl L) (h.none L h1 h2)
  · exact h2
/-- the candidate is L itself, where P is too great -/
theorem FacI.big {N L P : Nat} {l ks : List Nat} (h : FacI N L P l ks) (hsq : L < P * P) : ∀ c, 2 ≤ c → c < L → ¬ c ∣ L := sq_least h.none hsq
/-- a candidate Q has been divided out K times; X is left -/
structure Cand (N L P Q : Nat) : Prop where
  PQ : P ≤ Q
  QL : Q ≤ L
  none : ∀ c, 2 ≤ c → c < Q → ¬ c ∣ L
  sq : Q = L ∨ Q * Q ≤ N
theorem FacI.cand1 {N L P : Nat} {l ks : List Nat} (h : FacI N L P l ks) (hN : 0 < N) (h1 : 1 < L) (hsq : P * P ≤ L) : Cand N L P P :=
  ⟨Nat.le_refl _, h.PL h1, h.none, Or.inr (Nat.le_trans hsq (h.LN hN))⟩
theorem FacI.cand2 {N L P : Nat} {l ks : List Nat} (h : FacI N L P l ks) (h1 : 1 < L) (hsq : L < P * P) : Cand N L P L :=
  ⟨h.PL h1, Nat.le_refl _, h.big hsq, Or.inl rfl⟩
theorem left_one {L X K : Nat} (h1 : 1 < L) (hX : X % L ≠ 0) (e : L = L ^ K * X) : X = 1 := by
  rcases K with _ | K
  · rw [Nat.pow_zero, Nat.one_mul] at e
    rw [← e, Nat.mod_self] at hX
    exact absurd rfl hX
  · have hp : 0 < L ^ K := Nat.pow_pos (by omega)
    have e2 : L * 1 = L * (L ^ K * X) := by rw [Nat.mul_one, ← Nat.mul_assoc, ← Nat.pow_succ']; exact e
    have e3 := Nat.eq_of_mul_eq_mul_left (by omega) e2
    exact Nat.eq_one_of_mul_eq_one_left e3.symm
theorem FacI.next0 {N L P Q X : Nat} {l ks : List Nat} (h : FacI N L P l ks) (hc : Cand N L P Q) (hX : X % Q ≠ 0) (e : L = Q ^ 0 * X) : FacI N X (Q + 1) l ks := by
  rw [Nat.pow_zero, Nat.one_mul] at e
  subst e
  refine ⟨h.L0, by have := h.P2; have := hc.PQ; omega, h.len, h.prod, fun c h2 h3 hd => ?_, fun y hy => ?_, h.up, h.pos, by have := h.few; have := hc.PQ; omega, ?_⟩
  · by_cases e : c = Q
    · subst e; exact hX (Nat.mod_eq_zero_of_dvd hd)
    · exact hc.none c h2 (by omega) hd
  · obtain ⟨a, b, c⟩ := h.pr y hy
    exact ⟨a, by have := hc.PQ; omega, c⟩
  · rcases hc.sq with h2 | h2
    · left; subst h2; exact absurd (Nat.mod_self _) hX
    · right; exact h2
theorem FacI.next1 {N L P Q X K : Nat} {l ks : List Nat} (h : FacI N L P l ks) (hc : Cand N L P Q) (h1 : 1 < L) (hX : X % Q ≠ 0) (hK : 0 < K) (e : L = Q ^ K * X) : FacI N X (Q + 1) (l ++ [Q]) (ks ++ [K]) := by
  have hP2 := h.P2
  have hPQ := hc.PQ
  have hXL : X ∣ L := ⟨Q ^ K, by rw [Nat.mul_comm]; exact e⟩
  have hQL : Q ∣ L := by
    obtain ⟨j, rfl⟩ : ∃ j, K = j + 1 := ⟨K - 1, by omega⟩
    rw [e, Nat.pow_succ']
    exact ⟨Q ^ j * X, by rw [Nat.mul_assoc]⟩
  have hLN : L ∣ N := ⟨prodE l ks, by rw [← h.prod, Nat.mul_comm]⟩
  refine ⟨?_, by omega, by rw [List.length_append, List.length_append, h.len]; rfl, ?_, fun c h2 h3 hd => ?_, fun y hy => ?_, ?_, fun k hk => ?_, ?_, ?_⟩
  · rcases Nat.eq_zero_or_pos X with h2 | h2
    · subst h2; simp at hX
    · exact h2
  · rw [prodE_snoc l ks Q K h.len, Nat.mul_assoc, ← e]; exact h.prod
  · by_cases e2 : c = Q
    · subst e2; exact hX (Nat.mod_eq_zero_of_dvd hd)
    · exact hc.none c h2 (by omega) (Nat.dvd_trans hd hXL)
  · rcases List.mem_append.1 hy with h2 | h2
    · obtain ⟨a, b, c⟩ := h.pr y h2
      exact ⟨a, by omega, c⟩
    · rw [List.mem_singleton.1 h2]
      exact ⟨pr_of_least (by omega) hQL hc.none, by omega, Nat.dvd_trans hQL hLN⟩
  · refine List.pairwise_append.2 ⟨h.up, List.pairwise_singleton _ _, fun a ha b hb => ?_⟩
    rw [List.mem_singleton.1 hb]
    obtain ⟨_, h2, _⟩ := h.pr a ha
    omega
  · rcases List.mem_append.1 hk with h2 | h2
    · exact h.pos k h2
    · rw [List.mem_singleton.1 h2]; exact hK
  · rw [List.length_append]
    have := h.few
    have : [Q].length = 1 := rfl
    omega
  · rcases hc.sq with h2 | h2
    · left; subst h2; exact left_one h1 hX e
    · right; exact h2
theorem FacI.done {N P : Nat} {l ks : List Nat} (h : FacI N 1 P l ks) : Facs N l ks :=
  ⟨h.len, by have := h.prod; rw [Nat.mul_one] at this; exact this, fun y => ⟨fun hy => ⟨(h.pr y hy).1, (h.pr y hy).2.2⟩, fun hy => dvd_prodE hy.1 l ks (fun x hx => (h.pr x hx).1) (by have := h.prod; rw [Nat.mul_one] at this; rw [this]; exact hy.2)⟩, h.up, h.pos⟩
end Alg
end
section
open Alg
namespace Alg
/-- M is a multiple of the order, and divides p - 1; the primes among the first I are in order -/
structure OI (p a : Nat) (l : List Nat) (M I : Nat) : Prop where
  M0 : 0 < M
  Mp : M ∣ p - 1
  one : a ^ M % p = 1
  ok : ∀ j, j < I → nth l j ∣ M → a ^ (M / nth l j) % p ≠ 1
theorem OI.start {p a : Nat} {l : List Nat} (h1 : 1 < p) (h : a ^ (p - 1) % p = 1) : OI p a l (p - 1) 0 := ⟨by omega, Nat.dvd_refl _, h, fun j hj => absurd hj (Nat.not_lt_zero _)⟩
theorem OI.lt {p a M I : Nat} {l : List Nat} (h : OI p a l M I) (h1 : 1 < p) : M < p := by
  have := Nat.le_of_dvd (by omega) h.Mp; omega
theorem OI.cut {p a M I : Nat} {l : List Nat} (h : OI p a l M I) (hl : ∀ j, j < I → 0 < nth l j) {y : Nat} (hy : 0 < y) (hd : M % y = 0) (h1 : a ^ (M / y) % p = 1) : OI p a l (M / y) I := by
  have hyM := Nat.dvd_of_mod_eq_zero hd
  refine ⟨Nat.div_pos (Nat.le_of_dvd h.M0 hyM) hy, Nat.dvd_trans (Nat.div_dvd_of_dvd hyM) h.Mp, h1, fun j hj => bad_step hyM hy (hl j hj) (h.ok j hj)⟩
theorem OI.next {p a M I : Nat} {l : List Nat} (h : OI p a l M I) (hn : nth l I ∣ M → a ^ (M / nth l I) % p ≠ 1) : OI p a l M (I + 1) := by
  refine ⟨h.M0, h.Mp, h.one, fun j hj => ?_⟩
  by_cases e : j = I
  · subst e; exact hn
  · exact h.ok j (by omega)
theorem nth_mem {l : List Nat} {i : Nat} (h : i < l.length) : nth l i ∈ l := getD_mem h
theorem OI.done {p a M I : Nat} {l ks : List Nat} (h : OI p a l M I) (hf : Facs (p - 1) l ks) (hI : l.length ≤ I) : Ord p a M :=
  ord_of h.M0 h.one fun y hy hd => by
    obtain ⟨i, hi, e⟩ := List.mem_iff_getElem.1 ((hf.iff y).2 ⟨hy, Nat.dvd_trans hd h.Mp⟩)
    have e2 : nth l i = y := by unfold nth; rw [List.getD_eq_getElem?_getD, List.getElem?_eq_getElem hi, e]; rfl
    have := h.ok i (by omega)
    rw [e2] at this
    exact this hd
/-- the document's way -/
structure RI (p a M L D : Nat) : Prop where
  L0 : 0 < L
  M0 : 0 < M
  LM : L ∣ M
  Mp : M ∣ p - 1
  one : a ^ M % p = 1
  gd : Gd p a M L
  none : ∀ c, 2 ≤ c → c < D → ¬ c ∣ L
  D2 : 2 ≤ D
section
variable {p a M L D : Nat}
theorem RI.start (h1 : 1 < p) (h : a ^ (p - 1) % p = 1) : RI p a (p - 1) (p - 1) 2 :=
  ⟨by omega, by omega, Nat.dvd_refl _, Nat.dvd_refl _, h, Gd.start _ _ _, fun c h2 h3 => by omega, Nat.le_refl _⟩
theorem RI.Mlt (h : RI p a M L D) (h1 : 1 < p) : M < p := by
  have := Nat.le_of_dvd (by omega) h.Mp; omega
theorem RI.Llt (h : RI p a M L D) (h1 : 1 < p) : L < p := by
  have := Nat.le_of_dvd h.M0 h.LM
  have := h.Mlt h1
  omega
theorem RI.DL (h : RI p a M L D) (h1 : 1 < L) : D ≤ L := by
  rcases Nat.lt_or_ge L D with h2 | h2
  · exact absurd (Nat.dvd_refl L) (h.none L h1 h2)
  · exact h2
theorem RI.big (h : RI p a M L D) (h1 : 1 < L) (hsq : L < D * D) : RI p a M L L :=
  ⟨h.L0, h.M0, h.LM, h.Mp, h.one, h.gd, sq_least h.none hsq, h1⟩
theorem RI.pr (h : RI p a M L D) (hd : L % D = 0) : IsPr D := pr_of_least h.D2 (Nat.dvd_of_mod_eq_zero hd) h.none
theorem RI.none_cut (h : RI p a M L D) (hd : L % D = 0) : ∀ c, 2 ≤ c → c < D → ¬ c ∣ L / D := fun c h1 h2 h3 => h.none c h1 h2 (Nat.dvd_trans h3 (Nat.div_dvd_of_dvd (Nat.dvd_of_mod_eq_zero hd)))
theorem RI.L1 (h : RI p a M L D) (hd : L % D = 0) : 0 < L / D ∧ 2 * (L / D) ≤ L := by
  have hD := h.D2
  have hdd := Nat.dvd_of_mod_eq_zero hd
  refine ⟨Nat.div_pos (Nat.le_of_dvd h.L0 hdd) (by omega), ?_⟩
  have e := Nat.mul_div_cancel' hdd
  have := Nat.mul_le_mul_right (L / D) hD
  omega
theorem RI.cut (h : RI p a M L D) (hd : L % D = 0) (h1 : a ^ (M / D) % p = 1) : RI p a (M / D) (L / D) D := by
  have hD := h.D2
  have hdd := Nat.dvd_of_mod_eq_zero hd
  have hdM := Nat.dvd_trans hdd h.LM
  refine ⟨(h.L1 hd).1, Nat.div_pos (Nat.le_of_dvd h.M0 hdM) (by omega), ?_, Nat.dvd_trans (Nat.div_dvd_of_dvd hdM) h.Mp, h1, h.gd.cut (h.pr hd) hdd h.LM h1, h.none_cut hd, hD⟩
  obtain ⟨j, hj⟩ := h.LM
  obtain ⟨m, rfl⟩ := hdd
  rw [hj, Nat.mul_assoc, Nat.mul_div_cancel_left _ (by omega), Nat.mul_div_cancel_left _ (by omega)]
  exact ⟨j, rfl⟩
theorem RI.drop (h : RI p a M L D) (hd : L % D = 0) (h1 : a ^ (M / D) % p ≠ 1) : RI p a M (L / D) D := by
  have hdd := Nat.dvd_of_mod_eq_zero hd
  exact ⟨(h.L1 hd).1, h.M0, Nat.dvd_trans (Nat.div_dvd_of_dvd hdd) h.LM, h.Mp, h.one, h.gd.drop (h.pr hd) hdd h1, h.none_cut hd, h.D2⟩
theorem RI.next (h : RI p a M L D) (hd : L % D ≠ 0) : RI p a M L (D + 1) := by
  refine ⟨h.L0, h.M0, h.LM, h.Mp, h.one, h.gd, fun c h1 h2 h3 => ?_, by have := h.D2; omega⟩
  by_cases e : c = D
  · subst e; exact hd (Nat.mod_eq_zero_of_dvd h3)
  · exact h.none c h1 (by omega) h3
theorem RI.done (h : RI p a M 1 D) : Ord p a M := ord_of h.M0 h.one h.gd.done
end
end Alg
end
end
section
section
open Alg Go Go.RowKit
namespace Alg
/-- as a 64-bit number without sign; as an int -/
def f64 (c : Nat) : Value := .int .u64 (c : Int)
def fint (c : Nat) : Value := .int .i64 (c : Int)
/-- the call hands back the primes of N, and how often each -/
def RetF (N : Nat) (w : World) (e : Ending) (w' : World) : Prop :=
  ∃ a n cap l b cap' ks, e = .returned (.tuple #[.slice a n cap, .slice b n cap', .int .i64 0]) ∧ Facs N l ks ∧ SlF f64 w' a n cap l ∧ SlF fint w' b n cap' ks ∧ Below w.heap.size w w' ∧
    (n = 0 ∨ ∃ g, a = some ⟨g, 0, none⟩ ∧ w.heap.size ≤ g) ∧ (n = 0 ∨ ∃ g, b = some ⟨g, 0, none⟩ ∧ w.heap.size ≤ g)
theorem RetF.mk {N n : Nat} {l ks : List Nat} {w wr : World} {vq ve : Value} {e1 e2 : TypeId} (h : Facs N l ks) (hq : GrF f64 wr e1 w.heap.size vq n l) (he : GrF fint wr e2 w.heap.size ve n ks) (hb : Below w.heap.size w wr) :
    RetF N w (.returned (.tuple #[vq, ve, .int .i64 0])) wr := by
  obtain ⟨a, cap, rfl, h1, h2⟩ := hq.sl
  obtain ⟨b, cap', rfl, h3, h4⟩ := he.sl
  exact ⟨a, n, cap, l, b, cap', ks, rfl, h, h1, h3, hb, h2, h4⟩
theorem GrF.blt {f : Nat → Value} {w : World} {e : TypeId} {B : Nat} {v : Value} {n : Nat} {l : List Nat} (h : GrF f w e B v n l) : ∀ g, v.ownBlock = some g → g < w.heap.size := by
  intro g hg
  rcases h.shape with ⟨rfl, _⟩ | ⟨g', cap, rfl, hb, hlt, _⟩
  · simp [Value.ownBlock] at hg
  · simp [Value.ownBlock] at hg; omega
theorem GrF.kept {f : Nat → Value} {w w' : World} {e : TypeId} {B : Nat} {v : Value} {n : Nat} {l : List Nat} {row : Option Nat} (h : GrF f w e B v n l) (hg : w.grownBy w' row) (hne : v.ownBlock = none ∨ v.ownBlock ≠ row) : GrF f w' e B v n l := ⟨h.own.kept hg hne⟩
theorem ne_row {vq ve : Value} (hd : ∀ g, vq.ownBlock = some g → ve.ownBlock ≠ some g) : ve.ownBlock = none ∨ ve.ownBlock ≠ vq.ownBlock := by
  cases hv : ve.ownBlock with
  | none => exact Or.inl rfl
  | some g => exact Or.inr fun e => hd g e.symm hv
theorem fac_step {w wr w1 w2 : World} {vq ve : Value} {e1 e2 : TypeId} {m g1 c1 g2 c2 Q K : Nat} {l ks : List Nat} (hq : GrF f64 wr e1 w.heap.size vq m l) (he : GrF fint wr e2 w.heap.size ve m ks)
    (hd : ∀ g, vq.ownBlock = some g → ve.ownBlock ≠ some g) (hb : Below w.heap.size w wr)
    (hown1 : w1.ownsRow w.heap.size e1 1 (.slice (some ⟨g1, 0, none⟩) (m + 1) c1) (m + 1) (l.map f64 ++ [.int .u64 (Q : Int)])) (hgrow1 : (wr.alloc (.cells #[.int .u64 (Q : Int)] e1)).grownBy w1 vq.ownBlock)
    (hat1 : vq.ownBlock = some g1 ∨ g1 = wr.heap.size + 1) (hlt1 : g1 < w1.heap.size)
    (hown2 : w2.ownsRow w.heap.size e2 1 (.slice (some ⟨g2, 0, none⟩) (m + 1) c2) (m + 1) (ks.map fint ++ [.int .i64 (K : Int)])) (hgrow2 : (w1.alloc (.cells #[.int .i64 (K : Int)] e2)).grownBy w2 ve.ownBlock)
    (hat2 : ve.ownBlock = some g2 ∨ g2 = w1.heap.size + 1) :
    GrF f64 w2 e1 w.heap.size (.slice (some ⟨g1, 0, none⟩) (m + 1) c1) (m + 1) (l ++ [Q]) ∧ GrF fint w2 e2 w.heap.size (.slice (some ⟨g2, 0, none⟩) (m + 1) c2) (m + 1) (ks ++ [K]) ∧
    (∀ g, (Value.slice (some ⟨g1, 0, none⟩) (m + 1) c1).ownBlock = some g → (Value.slice (some ⟨g2, 0, none⟩) (m + 1) c2).ownBlock ≠ some g) ∧ Below w.heap.size w w2 := by
  have s1 : wr.heap.size + 1 ≤ w1.heap.size := by have := hgrow1.size; rw [World.size_alloc] at this; exact this
  have hne1 : ve.ownBlock ≠ some g1 := fun e => by
    rcases hat1 with h | h
    · exact hd _ h e
    · have := he.blt _ e; omega
  have hne : g1 ≠ g2 := fun e => by
    subst e
    rcases hat2 with h | h
    · exact hne1 h
    · omega
  refine ⟨((GrF.snoc (f := f64) hown1).mono ((Below.refl w1.heap.size w1).alloc (Nat.le_refl _) _)).kept hgrow2 (Or.inr (fun e => hne1 e.symm)), GrF.snoc (f := fint) hown2, fun g h1 h2 => ?_, ?_⟩
  · have h1 : some g1 = some g := h1
    have h2 : some g2 = some g := h2
    have := Option.some.inj (h1.trans h2.symm)
    exact hne this
  · have b1 := (hb.alloc hb.size (.cells #[.int .u64 (Q : Int)] e1)).grown hgrow1 (Nat.le_trans hb.size (by rw [World.size_alloc]; omega)) (fun k hk => hq.row k hk)
    exact (b1.alloc b1.size (.cells #[.int .i64 (K : Int)] e2)).grown hgrow2 (Nat.le_trans b1.size (by rw [World.size_alloc]; omega)) (fun k hk => he.row k hk)
end Alg
namespace Go.Proofs.YtbnjmeeaaieicaaDoor
open Go.RowKit
theorem Tryd.infoFq : (Tryd.prog.info? 35).map (fun i => (i.zero, i.size, i.bytes)) = some (some (.int .u64 0), 1, 8) := by kernel_rfl
theorem Tryd.infoFe : (Tryd.prog.info? 3).map (fun i => (i.zero, i.size, i.bytes)) = some (some (.int .i64 0), 1, 8) := by kernel_rfl
set_option maxRecDepth 100000 in
set_option maxHeartbeats 1000000 in
theorem prime_Factor (N : Nat) (w : World) (h0 : 0 < N) (hN : N ≤ 1099511627776) :
    Calls Tryd.prog 77 #[.int .u64 N] w (RetF N w) := by
  obtain ⟨iq, hiq, hq0, hq1, hq2⟩ := info_parts Tryd.infoFq
  obtain ⟨ie, hie, he0, he1, he2⟩ := info_parts Tryd.infoFe
  have HI := Alg.hid hiq
  have HJ := Alg.hid hie
  have HQ0 := Alg.hid hq0
  have HQ1 := Alg.hid hq1
  have HQ2 := Alg.hid hq2
  have HE0 := Alg.hid he0
  have HE1 := Alg.hid he1
  have HE2 := Alg.hid he2
  clear hiq hie hq0 hq1 hq2 he0 he1 he2
  go_enter Tryd.func77, Tryd.ntmps77
  go_wp2
  go_loopw [0, 2, 3, 5] (fun n vq ve p wr => ∃ L P m : Nat, ∃ l ks : List Nat, n = .int .u64 L ∧ p = .int .u64 P ∧ L ≤ N ∧ P ≤ N + 2 ∧ Hid (FacI N L P l ks) ∧ Hid (GrF f64 wr 35 w.heap.size vq m l) ∧ Hid (GrF fint wr 3 w.heap.size ve m ks) ∧
    Hid (∀ g, vq.ownBlock = some g → ve.ownBlock ≠ some g) ∧ Hid (Below w.heap.size w wr)) (fun _ _ _ p _ => N + 2 - (intOf p).toNat)
  case atStart => exact ⟨N, 2, 0, [], [], rfl, rfl, Nat.le_refl _, by omega, FacI.start h0, GrF.nil _ _ _ _, GrF.nil _ _ _ _, (fun g h => by simp [Value.ownBlock] at h), Below.refl _ _⟩
  case round =>
    obtain ⟨L, P, m, l, ks, rfl, rfl, hLN, hPN, hI, hq, he, hd, hb⟩ := hrel
    by_cases h1 : 1 < L
    · have hPL := hI.out.PL h1
      have hP2 := hI.out.P2
      have hmP := hI.out.few
      rw [hq.out.len] at hmP
      have hPP : (P : Int) * (P : Int) ≤ 8796093022208 ∧ 0 ≤ (P : Int) * (P : Int) := by
        rcases hI.out.sq with h | h
        · omega
        · have h3 : P - 1 ≤ 1048576 := by
            rcases Nat.lt_or_ge 1048576 (P - 1) with h4 | h4
            · have := Nat.mul_le_mul (show 1048577 ≤ P - 1 by omega) (show 1048577 ≤ P - 1 by omega)
              omega
            · exact h4
          have h5 : P * P ≤ 1048577 * 1048577 := Nat.mul_le_mul (by omega) (by omega)
          have e : (P : Int) * (P : Int) = ((P * P : Nat) : Int) := by rw [Int.natCast_mul]
          omega
      obtain ⟨hPP1, hPP2⟩ := hPP
      by_cases hsq : L < P * P
      · have hsq' : (L : Int) < (P : Int) * (P : Int) := by
          have e : (P : Int) * (P : Int) = ((P * P : Nat) : Int) := by rw [Int.natCast_mul]
          omega
        have HC := Alg.hid (hI.out.cand2 h1 hsq)
        clear hsq
        have hQ2 : 2 ≤ L := by omega
        go_wp2
        go_loop [0, 6] (fun n k => ∃ X K : Nat, n = .int .u64 X ∧ k = .int .i64 K ∧ 0 < X ∧ X ≤ N ∧ K + X ≤ N + 1 ∧ Hid (L = L ^ K * X)) (fun n _ => (intOf n).toNat)
        case atStart => exact ⟨L, 0, rfl, rfl, by omega, hLN, by omega, by show _ = _; rw [Nat.pow_zero, Nat.one_mul]⟩
        case round =>
          obtain ⟨X, K, rfl, rfl, hX0, hXN, hKX, hLX⟩ := hrel
          by_cases hdiv : X % L = 0
          · have hdv : (X : Int) % (L : Int) = 0 := by
              have : (X : Int) % (L : Int) = ((X % L : Nat) : Int) := by simp
              rw [this, hdiv]; rfl
            obtain ⟨Y, hY⟩ : ∃ Y, Y = X / L := ⟨_, rfl⟩
            have hXY : X = L * Y := by rw [hY, Nat.mul_div_cancel' (Nat.dvd_of_mod_eq_zero hdiv)]
            have hY0 : 0 < Y := by
              rcases Nat.eq_zero_or_pos Y with h | h
              · rw [h] at hXY; omega
              · exact h
            have hYX : 2 * Y ≤ X := by rw [hXY]; exact Nat.mul_le_mul_right Y hQ2
            have eY : (X : Int) / (L : Int) = (Y : Int) := by rw [hY]; simp
            have HL : Hid (L = L ^ (K + 1) * Y) := by
              show _ = _
              rw [Nat.pow_succ, Nat.mul_assoc, ← hXY]; exact hLX.out
            clear hLX hdiv hY hXY
            go_wp2
            go_round
            case rel => exact ⟨Y, K + 1, rfl, by go_num, hY0, by omega, by omega, HL⟩
            case measure => simp [intOf]; omega
          · have hdv : ((X : Int) % (L : Int) == 0) = false := by
              have : (X : Int) % (L : Int) = ((X % L : Nat) : Int) := by simp
              rw [this]; simp; omega
            have hQN : L ≤ N := by omega
            by_cases k0 : K = 0
            · subst k0
              have HN := Alg.hid (hI.out.next0 HC.out hdiv hLX.out)
              clear hdiv hLX
              go_wp2
              go_roundw
              case rel => exact ⟨X, L + 1, m, l, ks, rfl, by go_num, hXN, by omega, HN, hq, he, hd, hb⟩
              case measure => simp [intOf]; omega
            · have hk0 : (0 : Int) < (K : Int) := by omega
              have HN := Alg.hid (hI.out.next1 HC.out h1 hdiv (by omega) hLX.out)
              have s1 : m + 1 ≤ maxLen := by unfold maxLen; omega
              have s2 : (m + 1) * 8 ≤ 140737488355328 := by omega
              have Q1 : Hid (∀ u ∈ [Value.int IntKind.u64 (L : Int)], u.oneCell' = true) := by show ∀ u ∈ _, _; simp [Value.oneCell']
              have Q2 : Hid (∀ u ∈ [Value.int IntKind.i64 (K : Int)], u.oneCell' = true) := by show ∀ u ∈ _, _; simp [Value.oneCell']
              clear hdiv hLX
              go_wp2_with (first
                | (at_builtin; refine wpList_append_lies _ rfl _ _ 76 rfl w.heap.size 35 iq (.int .u64 0) 1 8 Tryd.underlying76 HI.out HQ0.out HQ1.out HQ2.out rfl Nat.one_pos _ m (l.map f64) rfl (hq.out.own.alloc _) ⟨wr.heap.size, 0, none⟩ 1 1 [.int .u64 (L : Int)] rfl rfl news_one Q1.out Nat.one_pos s1 s2 (Nat.le_trans hb.out.size (size_le_alloc _ _)) (wr.heap.size + 1) (World.size_alloc _ _) ?_; intro g1 c1 w1 hown1 hgrow1 hat1 hlt1; have hE1 := Alg.hid ((he.out.mono ((Below.refl wr.heap.size wr).alloc (Nat.le_refl _) _)).kept hgrow1 (ne_row hd.out)))
                | (at_builtin; refine wpList_append_lies _ rfl _ _ 77 rfl w.heap.size 3 ie (.int .i64 0) 1 8 Tryd.underlying77 HJ.out HE0.out HE1.out HE2.out rfl Nat.one_pos _ m (ks.map fint) rfl (hE1.out.own.alloc _) ⟨w1.heap.size, 0, none⟩ 1 1 [.int .i64 (K : Int)] rfl rfl news_one Q2.out Nat.one_pos s1 s2 (Nat.le_trans (Nat.le_trans hb.out.size (Nat.le_trans (size_le_alloc wr (.cells #[.int .u64 (L : Int)] 35)) hgrow1.size)) (size_le_alloc _ _)) (w1.heap.size + 1) (World.size_alloc _ _) ?_; intro g2 c2 w2 hown2 hgrow2 hat2 hlt2)
                | fail)
              obtain ⟨HQ', HE', HD', HB'⟩ := fac_step hq.out he.out hd.out hb.out hown1 hgrow1 hat1 hlt1 hown2 hgrow2 hat2
              have HQ2' := Alg.hid HQ'
              have HE2' := Alg.hid HE'
              have HD2' := Alg.hid HD'
              have HB2' := Alg.hid HB'
              clear hat1 hat2 HQ' HE' HD' HB' hown1 hown2 hgrow1 hgrow2 hE1
              go_roundw
              case rel => exact ⟨X, L + 1, m + 1, l ++ [L], ks ++ [K], rfl, by go_num, hXN, by omega, HN, HQ2', HE2', HD2', HB2'⟩
              case measure => simp [intOf]; omega
      · have hsq' : ¬ (L : Int) < (P : Int) * (P : Int) := by
          have e : (P : Int) * (P : Int) = ((P * P : Nat) : Int) := by rw [Int.natCast_mul]
          omega
        have HC := Alg.hid (hI.out.cand1 h0 h1 (by omega))
        clear hsq
        have hQ2 : 2 ≤ P := by omega
        go_wp2
        go_loop [0, 6] (fun n k => ∃ X K : Nat, n = .int .u64 X ∧ k = .int .i64 K ∧ 0 < X ∧ X ≤ N ∧ K + X ≤ N + 1 ∧ Hid (L = P ^ K * X)) (fun n _ => (intOf n).toNat)
        case atStart => exact ⟨L, 0, rfl, rfl, by omega, hLN, by omega, by show _ = _; rw [Nat.pow_zero, Nat.one_mul]⟩
        case round =>
          obtain ⟨X, K, rfl, rfl, hX0, hXN, hKX, hLX⟩ := hrel
          by_cases hdiv : X % P = 0
          · have hdv : (X : Int) % (P : Int) = 0 := by
              have : (X : Int) % (P : Int) = ((X % P : Nat) : Int) := by simp
              rw [this, hdiv]; rfl
            obtain ⟨Y, hY⟩ : ∃ Y, Y = X / P := ⟨_, rfl⟩
            have hXY : X = P * Y := by rw [hY, Nat.mul_div_cancel' (Nat.dvd_of_mod_eq_zero hdiv)]
            have hY0 : 0 < Y := by
              rcases Nat.eq_zero_or_pos Y with h | h
              · rw [h] at hXY; omega
              · exact h
            have hYX : 2 * Y ≤ X := by rw [hXY]; exact Nat.mul_le_mul_right Y hQ2
            have eY : (X : Int) / (P : Int) = (Y : Int) := by rw [hY]; simp
            have HL : Hid (L = P ^ (K + 1) * Y) := by
              show _ = _
              rw [Nat.pow_succ, Nat.mul_assoc, ← hXY]; exact hLX.out
            clear hLX hdiv hY hXY
            go_wp2
            go_round
            case rel => exact ⟨Y, K + 1, rfl, by go_num, hY0, by omega, by omega, HL⟩
            case measure => simp [intOf]; omega
          · have hdv : ((X : Int) % (P : Int) == 0) = false := by
              have : (X : Int) % (P : Int) = ((X % P : Nat) : Int) := by simp
              rw [this]; simp; omega
            have hQN : P ≤ N := by omega
            by_cases k0 : K = 0
            · subst k0
              have HN := Alg.hid (hI.out.next0 HC.out hdiv hLX.out)
              clear hdiv hLX
              go_wp2
              go_roundw
              case rel => exact ⟨X, P + 1, m, l, ks, rfl, by go_num, hXN, by omega, HN, hq, he, hd, hb⟩
              case measure => simp [intOf]; omega
            · have hk0 : (0 : Int) < (K : Int) := by omega
              have HN := Alg.hid (hI.out.next1 HC.out h1 hdiv (by omega) hLX.out)
              have s1 : m + 1 ≤ maxLen := by unfold maxLen; omega
              have s2 : (m + 1) * 8 ≤ 140737488355328 := by omega
              have Q1 : Hid (∀ u ∈ [Value.int IntKind.u64 (P : Int)], u.oneCell' = true) := by show ∀ u ∈ _, _; simp [Value.oneCell']
              have Q2 : Hid (∀ u ∈ [Value.int IntKind.i64 (K : Int)], u.oneCell' = true) := by show ∀ u ∈ _, _; simp [Value.oneCell']
              clear hdiv hLX
              go_wp2_with (first
                | (at_builtin; refine wpList_append_lies _ rfl _ _ 76 rfl w.heap.size 35 iq (.int .u64 0) 1 8 Tryd.underlying76 HI.out HQ0.out HQ1.out HQ2.out rfl Nat.one_pos _ m (l.map f64) rfl (hq.out.own.alloc _) ⟨wr.heap.size, 0, none⟩ 1 1 [.int .u64 (P : Int)] rfl rfl news_one Q1.out Nat.one_pos s1 s2 (Nat.le_trans hb.out.size (size_le_alloc _ _)) (wr.heap.size + 1) (World.size_alloc _ _) ?_; intro g1 c1 w1 hown1 hgrow1 hat1 hlt1; have hE1 := Alg.hid ((he.out.mono ((Below.refl wr.heap.size wr).alloc (Nat.le_refl _) _)).kept hgrow1 (ne_row hd.out)))
                | (at_builtin; refine wpList_append_lies _ rfl _ _ 77 rfl w.heap.size 3 ie (.int .i64 0) 1 8 Tryd.underlying77 HJ.out HE0.out HE1.out HE2.out rfl Nat.one_pos _ m (ks.map fint) rfl (hE1.out.own.alloc _) ⟨w1.heap.size, 0, none⟩ 1 1 [.int .i64 (K : Int)] rfl rfl news_one Q2.out Nat.one_pos s1 s2 (Nat.le_trans (Nat.le_trans hb.out.size (Nat.le_trans (size_le_alloc wr (.cells #[.int .u64 (P : Int)] 35)) hgrow1.size)) (size_le_alloc _ _)) (w1.heap.size + 1) (World.size_alloc _ _) ?_; intro g2 c2 w2 hown2 hgrow2 hat2 hlt2)
                | fail)
              obtain ⟨HQ', HE', HD', HB'⟩ := fac_step hq.out he.out hd.out hb.out hown1 hgrow1 hat1 hlt1 hown2 hgrow2 hat2
              have HQ2' := Alg.hid HQ'
              have HE2' := Alg.hid HE'
              have HD2' := Alg.hid HD'
              have HB2' := Alg.hid HB'
              clear hat1 hat2 HQ' HE' HD' HB' hown1 hown2 hgrow1 hgrow2 hE1
              go_roundw
              case rel => exact ⟨X, P + 1, m + 1, l ++ [P], ks ++ [K], rfl, by go_num, hXN, by omega, HN, HQ2', HE2', HD2', HB2'⟩
              case measure => simp [intOf]; omega
    · have hL0 := hI.out.L0
      obtain rfl : L = 1 := by omega
      go_wp2
      go_ret3
      exact RetF.mk hI.out.done hq.out he.out hb.out
end Go.Proofs.YtbnjmeeaaieicaaDoor
end
end
