import Derived.Test.YtcefhnmhcapccaaDoorA1
namespace Alg

/-! ### numbers modulo p -/
structure Fp (p : Nat) where
  v : Nat
  h : v < p

namespace Fp
variable {p : Nat}
theorem ext {a b : Fp p} (h : a.v = b.v) : a = b := by cases a; cases b; cases h; rfl
theorem pos (a : Fp p) : 0 < p := Nat.lt_of_le_of_lt (Nat.zero_le _) a.h
def of [NeZero p] (n : Nat) : Fp p := ⟨n % p, Nat.mod_lt _ (Nat.pos_of_ne_zero (NeZero.ne p))⟩
protected def add (a b : Fp p) : Fp p := ⟨(a.v + b.v) % p, Nat.mod_lt _ a.pos⟩
protected def mul (a b : Fp p) : Fp p := ⟨(a.v * b.v) % p, Nat.mod_lt _ a.pos⟩
protected def neg (a : Fp p) : Fp p := ⟨(p - a.v) % p, Nat.mod_lt _ a.pos⟩
theorem v_of [NeZero p] (n : Nat) : (of n : Fp p).v = n % p := rfl
instance [NeZero p] : CR (Fp p) where
  add := Fp.add
  mul := Fp.mul
  neg := Fp.neg
  zero := of 0
  one := of 1
  add_assoc a b c := ext (show ((a.v + b.v) % p + c.v) % p = (a.v + (b.v + c.v) % p) % p by simp only [Nat.mod_add_mod, Nat.add_mod_mod, Nat.add_assoc])
  add_comm a b := ext (show (a.v + b.v) % p = (b.v + a.v) % p by rw [Nat.add_comm])
  zero_add a := ext (show (0 % p + a.v) % p = a.v by rw [Nat.zero_mod, Nat.zero_add, Nat.mod_eq_of_lt a.h])
  neg_add a := ext (show ((p - a.v) % p + a.v) % p = 0 % p by
    have := a.h
    rw [Nat.mod_add_mod, show p - a.v + a.v = p by omega, Nat.mod_self, Nat.zero_mod])
  mul_assoc a b c := ext (show ((a.v * b.v) % p * c.v) % p = (a.v * ((b.v * c.v) % p)) % p by simp only [Nat.mod_mul_mod, Nat.mul_mod_mod, Nat.mul_assoc])
  mul_comm a b := ext (show (a.v * b.v) % p = (b.v * a.v) % p by rw [Nat.mul_comm])
  one_mul a := ext (show (1 % p * a.v) % p = a.v by rw [Nat.mod_mul_mod, Nat.one_mul, Nat.mod_eq_of_lt a.h])
  mul_add a b c := ext (show (a.v * ((b.v + c.v) % p)) % p = ((a.v * b.v) % p + (a.v * c.v) % p) % p by simp only [Nat.mul_mod_mod, Nat.mul_add, Nat.mod_add_mod, Nat.add_mod_mod])
variable [NeZero p]
theorem v_add (a b : Fp p) : (a + b).v = (a.v + b.v) % p := rfl
theorem v_mul (a b : Fp p) : (a * b).v = (a.v * b.v) % p := rfl
theorem v_neg (a : Fp p) : (-a).v = (p - a.v) % p := rfl
theorem v_zero : (0 : Fp p).v = 0 := Nat.zero_mod p
theorem v_one : (1 : Fp p).v = 1 % p := rfl
theorem of_add (a b : Nat) : (of (a + b) : Fp p) = of a + of b := ext (by simp only [v_of, v_add, Nat.mod_add_mod, Nat.add_mod_mod])
theorem of_mul (a b : Nat) : (of (a * b) : Fp p) = of a * of b := ext (by simp only [v_of, v_mul, Nat.mod_mul_mod, Nat.mul_mod_mod])
theorem of_zero : (of 0 : Fp p) = 0 := rfl
theorem of_one : (of 1 : Fp p) = 1 := rfl
theorem of_mod (a : Nat) : (of (a % p) : Fp p) = of a := ext (by simp only [v_of, Nat.mod_mod])
theorem of_v (a : Fp p) : of a.v = a := ext (Nat.mod_eq_of_lt a.h)
theorem of_self : (of p : Fp p) = 0 := ext (by simp only [v_of, v_zero, Nat.mod_self])
theorem of_eq {a b : Nat} : (of a : Fp p) = of b ↔ a % p = b % p := ⟨fun h => congrArg Fp.v h, fun h => ext h⟩
theorem of_eq_zero {a : Nat} : (of a : Fp p) = 0 ↔ p ∣ a :=
  ⟨fun h => Nat.dvd_of_mod_eq_zero (by have := congrArg Fp.v h; rwa [v_of, v_zero] at this), fun h => ext (by rw [v_of, v_zero]; exact Nat.mod_eq_zero_of_dvd h)⟩
theorem of_inj {a b : Nat} (ha : a < p) (hb : b < p) (h : (of a : Fp p) = of b) : a = b := by
  have := of_eq.1 h; rwa [Nat.mod_eq_of_lt ha, Nat.mod_eq_of_lt hb] at this
theorem nat_eq : ∀ n, (CR.nat n : Fp p) = of n
  | 0 => rfl
  | n + 1 => by show CR.nat n + 1 = _; rw [nat_eq n, of_add]; rfl
theorem of_sub {a b : Nat} (h : b ≤ a) : (of (a - b) : Fp p) = of a + -of b := by
  have : (of (a - b) : Fp p) + of b = of a := by rw [← of_add]; congr 1; omega
  rw [← this, CR.add_assoc, CR.add_neg, CR.add_zero]
theorem of_neg {b : Nat} (h : b ≤ p) : (of (p - b) : Fp p) = -of b := by rw [of_sub h, of_self, CR.zero_add]
theorem pw_v (a : Fp p) : ∀ n, (CR.pw a n).v = a.v ^ n % p
  | 0 => by show (1 : Fp p).v = _; rw [v_one]; rfl
  | n + 1 => by rw [CR.pw_succ, v_mul, pw_v a n, Nat.mod_mul_mod, Nat.pow_succ]
theorem of_pow (a n : Nat) : (of (a ^ n) : Fp p) = CR.pw (of a) n := ext (by rw [pw_v, v_of, v_of, ← Nat.pow_mod])

/-! the field -/
theorem fermat (hp : IsPr p) (a : Fp p) : CR.pw a p = a := by
  have key : ∀ n, CR.pw (of n : Fp p) p = of n := by
    intro n
    induction n with
    | zero => exact CR.zero_pw _ (by have := hp.1; omega)
    | succ n ih =>
      obtain ⟨c, hc⟩ := CR.frob_add hp (of n : Fp p) 1
      rw [of_add, of_one, hc, ih, CR.one_pw, nat_eq, of_self, CR.zero_mul, CR.add_zero]
  have := key a.v; rwa [of_v] at this
theorem mul_eq_zero (hp : IsPr p) {a b : Fp p} (h : a * b = 0) : a = 0 ∨ b = 0 := by
  have h1 : (of (a.v * b.v) : Fp p) = 0 := by rw [of_mul, of_v, of_v]; exact h
  rcases hp.dvd_mul (of_eq_zero.1 h1) with h2 | h2
  · left; rw [← of_v a]; exact of_eq_zero.2 h2
  · right; rw [← of_v b]; exact of_eq_zero.2 h2
theorem one_ne_zero (hp : IsPr p) : (1 : Fp p) ≠ 0 := fun h => by
  have h2 : p ∣ 1 := of_eq_zero.1 (by rw [of_one]; exact h)
  have := Nat.le_of_dvd (by omega) h2; have := hp.1; omega
theorem mul_left_cancel (hp : IsPr p) {a b c : Fp p} (ha : a ≠ 0) (h : a * b = a * c) : b = c := by
  have : a * (b + -c) = 0 := by rw [CR.mul_add, h, ← CR.mul_add, CR.add_neg, CR.mul_zero]
  rcases mul_eq_zero hp this with h | h
  · exact absurd h ha
  · exact CR.add_neg_eq_zero h
theorem fermat1 (hp : IsPr p) {a : Fp p} (ha : a ≠ 0) : CR.pw a (p - 1) = 1 := by
  apply mul_left_cancel hp ha
  have h2 := hp.1
  have : CR.pw a (p - 1 + 1) = a := by rw [show p - 1 + 1 = p by omega]; exact fermat hp a
  rw [CR.pw_succ] at this
  rw [CR.mul_comm, this, CR.mul_one]
def inv (a : Fp p) : Fp p := CR.pw a (p - 2)
theorem inv_mul (hp : IsPr p) {a : Fp p} (ha : a ≠ 0) : inv a * a = 1 := by
  have h2 := hp.1
  have := fermat1 hp ha
  rw [show p - 1 = p - 2 + 1 by omega, CR.pw_succ] at this
  exact this
theorem mul_inv (hp : IsPr p) {a : Fp p} (ha : a ≠ 0) : a * inv a = 1 := by rw [CR.mul_comm]; exact inv_mul hp ha
theorem inv_ne (hp : IsPr p) {a : Fp p} (ha : a ≠ 0) : inv a ≠ 0 := fun h => by
  have := inv_mul hp ha; rw [h, CR.zero_mul] at this; exact one_ne_zero hp this.symm
end Fp

/-! ### rows of coefficients without an end -/
structure Ser (R : Type) where
  c : Nat → R
namespace Ser
variable {R : Type} [CR R]
omit [CR R] in
theorem ext {f g : Ser R} (h : ∀ i, f.c i = g.c i) : f = g := by cases f; cases g; congr 1; exact funext h
/-- a number -/
def C (a : R) : Ser R := ⟨fun i => if i = 0 then a else 0⟩
protected def mul (f g : Ser R) : Ser R := ⟨fun k => CR.sum (fun i => f.c i * g.c (k - i)) (k + 1)⟩
theorem C_mul_c' (a : R) (f : Ser R) (k : Nat) : (Ser.mul (C a) f).c k = a * f.c k := by
  show CR.sum _ (k + 1) = _
  rw [CR.sum_one (k := 0) (k + 1) (by omega) (fun i _ h => by show (if i = 0 then a else 0) * _ = 0; rw [if_neg h, CR.zero_mul])]
  rfl
theorem mul_comm' (f g : Ser R) : Ser.mul f g = Ser.mul g f := ext fun k => by
  show CR.sum _ (k + 1) = CR.sum _ (k + 1)
  rw [CR.sum_rev]
  refine CR.sum_congr _ fun i hi => ?_
  rw [show k - (k - i) = i by omega, CR.mul_comm]
theorem mul_assoc' (f g h : Ser R) : Ser.mul (Ser.mul f g) h = Ser.mul f (Ser.mul g h) := ext fun k => by
  show CR.sum (fun i => (Ser.mul f g).c i * h.c (k - i)) (k + 1) = CR.sum (fun i => f.c i * (Ser.mul g h).c (k - i)) (k + 1)
  have h1 : CR.sum (fun i => (Ser.mul f g).c i * h.c (k - i)) (k + 1) = CR.sum (fun i => CR.sum (fun j => f.c j * g.c (i - j) * h.c (k - i)) (i + 1)) (k + 1) :=
    CR.sum_congr _ fun i hi => by show CR.sum _ (i + 1) * _ = _; rw [CR.sum_mul]
  rw [h1, CR.sum_tri (fun i j => f.c j * g.c (i - j) * h.c (k - i))]
  refine CR.sum_congr _ fun j hj => ?_
  show _ = _ * CR.sum _ (k - j + 1)
  rw [CR.mul_sum, show k + 1 - j = k - j + 1 by omega]
  refine CR.sum_congr _ fun l hl => ?_
  rw [CR.mul_assoc, show j + l - j = l by omega, show k - (j + l) = k - j - l by omega]
instance : CR (Ser R) where
  add f g := ⟨fun i => f.c i + g.c i⟩
  neg f := ⟨fun i => -f.c i⟩
  mul := Ser.mul
  zero := ⟨fun _ => 0⟩
  one := C 1
  add_assoc _ _ _ := ext fun _ => CR.add_assoc _ _ _
  add_comm _ _ := ext fun _ => CR.add_comm _ _
  zero_add _ := ext fun _ => CR.zero_add _
  neg_add _ := ext fun _ => CR.neg_add _
  mul_comm := mul_comm'
  one_mul f := ext fun k => by show (Ser.mul (C 1) f).c k = _; rw [C_mul_c', CR.one_mul]
  mul_add f g h := ext fun k => by
    show CR.sum (fun i => f.c i * (g.c (k - i) + h.c (k - i))) (k + 1) = CR.sum _ (k + 1) + CR.sum _ (k + 1)
    rw [← CR.sum_add]; exact CR.sum_congr _ fun i _ => CR.mul_add _ _ _
  mul_assoc := mul_assoc'
theorem c_add (f g : Ser R) (i : Nat) : (f + g).c i = f.c i + g.c i := rfl
theorem c_neg (f : Ser R) (i : Nat) : (-f).c i = -f.c i := rfl
theorem c_mul (f g : Ser R) (k : Nat) : (f * g).c k = CR.sum (fun i => f.c i * g.c (k - i)) (k + 1) := rfl
theorem c_zero (i : Nat) : (0 : Ser R).c i = 0 := rfl
theorem c_C (a : R) (i : Nat) : (C a).c i = if i = 0 then a else 0 := rfl
theorem c_one (i : Nat) : (1 : Ser R).c i = if i = 0 then 1 else 0 := rfl
theorem C_mul_c (a : R) (f : Ser R) (k : Nat) : (C a * f).c k = a * f.c k := C_mul_c' a f k
theorem C_mul (a b : R) : C (a * b) = C a * C b := ext fun k => by
  rw [C_mul_c, c_C, c_C]; split <;> simp only [CR.mul_zero]
theorem C_add (a b : R) : C (a + b) = C a + C b := ext fun k => by
  rw [c_add, c_C, c_C, c_C]; split <;> simp only [CR.add_zero]
theorem C_zero : C (0 : R) = 0 := ext fun k => by rw [c_C]; split <;> rfl
theorem C_one : C (1 : R) = 1 := rfl
theorem C_neg (a : R) : C (-a) = -C a := ext fun k => by
  rw [c_neg, c_C, c_C]; split
  · rfl
  · exact CR.neg_zero.symm
/-- x^n -/
def X (n : Nat) : Ser R := ⟨fun i => if i = n then 1 else 0⟩
theorem X_mul_c (n : Nat) (f : Ser R) (k : Nat) : (X n * f).c k = if n ≤ k then f.c (k - n) else 0 := by
  rw [c_mul]
  by_cases h : n ≤ k
  · rw [if_pos h, CR.sum_one (k := n) (k + 1) (by omega) (fun i _ hn => by show (if i = n then (1 : R) else 0) * _ = 0; rw [if_neg hn, CR.zero_mul])]
    show (if n = n then (1 : R) else 0) * _ = _
    rw [if_pos rfl, CR.one_mul]
  · rw [if_neg h]; exact CR.sum_zero' _ fun i hi => by show (if i = n then (1 : R) else 0) * _ = 0; rw [if_neg (by omega), CR.zero_mul]
theorem X_zero : X 0 = (1 : Ser R) := rfl
theorem X_add (m n : Nat) : X (m + n) = X m * (X n : Ser R) := ext fun k => by
  rw [X_mul_c]; show (if k = m + n then (1 : R) else 0) = if m ≤ k then (if k - m = n then (1 : R) else 0) else 0
  by_cases h : m ≤ k
  · rw [if_pos h]; by_cases h2 : k = m + n
    · rw [if_pos h2, if_pos (by omega)]
    · rw [if_neg h2, if_neg (by omega)]
  · rw [if_neg h, if_neg (by omega)]
theorem pw_X (m : Nat) : ∀ n, CR.pw (X m : Ser R) n = X (m * n)
  | 0 => by rw [Nat.mul_zero]; rfl
  | n + 1 => by rw [CR.pw_succ, pw_X m n, Nat.mul_succ, X_add]

/-- nothing from n on -/
def bd (f : Ser R) (n : Nat) : Prop := ∀ i, n ≤ i → f.c i = 0
theorem bd.mono {f : Ser R} {m n : Nat} (h : f.bd m) (hmn : m ≤ n) : f.bd n := fun i hi => h i (by omega)
theorem bd_zero (n : Nat) : (0 : Ser R).bd n := fun _ _ => rfl
theorem bd_C (a : R) : (C a).bd 1 := fun i hi => by rw [c_C, if_neg (by omega)]
theorem bd_X (n : Nat) : (X n : Ser R).bd (n + 1) := fun i hi => if_neg (by omega)
theorem bd.add {f g : Ser R} {n : Nat} (hf : f.bd n) (hg : g.bd n) : (f + g).bd n := fun i hi => by rw [c_add, hf i hi, hg i hi, CR.add_zero]
theorem bd.neg {f : Ser R} {n : Nat} (hf : f.bd n) : (-f).bd n := fun i hi => by rw [c_neg, hf i hi, CR.neg_zero]
theorem bd.eq_zero {f : Ser R} (h : f.bd 0) : f = 0 := ext fun i => h i (Nat.zero_le _)
theorem bd.mul {f g : Ser R} {m n : Nat} (hf : f.bd (m + 1)) (hg : g.bd (n + 1)) : (f * g).bd (m + n + 1) := fun k hk => by
  rw [c_mul]; refine CR.sum_zero' _ fun i hi => ?_
  by_cases h : m + 1 ≤ i
  · rw [hf i h, CR.zero_mul]
  · rw [hg (k - i) (by omega), CR.mul_zero]
theorem top_mul {f g : Ser R} {m n : Nat} (hf : f.bd (m + 1)) (hg : g.bd (n + 1)) : (f * g).c (m + n) = f.c m * g.c n := by
  rw [c_mul, CR.sum_one (k := m) _ (by omega) (fun i hi hne => ?_)]
  · rw [show m + n - m = n by omega]
  · by_cases h : m + 1 ≤ i
    · rw [hf i h, CR.zero_mul]
    · rw [hg (m + n - i) (by omega), CR.mul_zero]
theorem bd.C_mul {f : Ser R} {n : Nat} (hf : f.bd n) (a : R) : (C a * f).bd n := fun i hi => by rw [C_mul_c, hf i hi, CR.mul_zero]
/-- a finite row is a sum of its terms -/
theorem bd.step {f : Ser R} {n : Nat} (hf : f.bd (n + 1)) : (f + -(C (f.c n) * X n)).bd n := fun i hi => by
  rw [c_add, c_neg, C_mul_c]
  by_cases h : i = n
  · subst h; show _ + -(_ * (if i = i then (1 : R) else 0)) = 0; rw [if_pos rfl, CR.mul_one, CR.add_neg]
  · show _ + -(_ * (if i = n then (1 : R) else 0)) = 0; rw [if_neg h, CR.mul_zero, CR.neg_zero, CR.add_zero, hf i (by omega)]
theorem bd.last {f : Ser R} {n : Nat} (hf : f.bd (n + 1)) (h : f.c n = 0) : f.bd n := fun i hi => by
  by_cases e : i = n
  · rw [e, h]
  · exact hf i (by omega)
/-- induction on what is finite -/
theorem bd.ind {P : Ser R → Prop} (h0 : P 0) (h1 : ∀ f a n, P f → f.bd n → P (f + C a * X n)) : ∀ n (f : Ser R), f.bd n → P f
  | 0, f, h => by rw [h.eq_zero]; exact h0
  | n + 1, f, h => by
    have := h1 _ (f.c n) n (bd.ind h0 h1 n _ h.step) h.step
    rwa [CR.add_assoc, CR.neg_add, CR.add_zero] at this
end Ser
end Alg
