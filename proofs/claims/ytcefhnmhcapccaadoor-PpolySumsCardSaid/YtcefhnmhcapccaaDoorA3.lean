import Derived.Test.YtcefhnmhcapccaaDoorA2
namespace Alg

/-- polynomials: rows that end -/
structure Poly (R : Type) [CR R] where
  s : Ser R
  fin : ∃ n, s.bd n

namespace Poly
variable {R : Type} [CR R]
def c (f : Poly R) (i : Nat) : R := f.s.c i
def bd (f : Poly R) (n : Nat) : Prop := f.s.bd n
theorem ext {f g : Poly R} (h : ∀ i, f.c i = g.c i) : f = g := by
  have : f.s = g.s := Ser.ext h
  cases f; cases g; cases this; rfl
theorem bd_max {f g : Ser R} {m n : Nat} (hf : f.bd m) (hg : g.bd n) : f.bd (m + n) ∧ g.bd (m + n) := ⟨hf.mono (by omega), hg.mono (by omega)⟩
protected def add (f g : Poly R) : Poly R := ⟨f.s + g.s, by
  obtain ⟨m, hm⟩ := f.fin; obtain ⟨n, hn⟩ := g.fin; exact ⟨m + n, (bd_max hm hn).1.add (bd_max hm hn).2⟩⟩
protected def neg (f : Poly R) : Poly R := ⟨-f.s, by obtain ⟨m, hm⟩ := f.fin; exact ⟨m, hm.neg⟩⟩
protected def mul (f g : Poly R) : Poly R := ⟨f.s * g.s, by
  obtain ⟨m, hm⟩ := f.fin; obtain ⟨n, hn⟩ := g.fin
  exact ⟨m + n + 1, Ser.bd.mul (hm.mono (Nat.le_succ m)) (hn.mono (Nat.le_succ n))⟩⟩
def C (a : R) : Poly R := ⟨Ser.C a, 1, Ser.bd_C a⟩
def X (n : Nat) : Poly R := ⟨Ser.X n, n + 1, Ser.bd_X n⟩
instance : CR (Poly R) where
  add := Poly.add
  mul := Poly.mul
  neg := Poly.neg
  zero := ⟨0, 0, Ser.bd_zero 0⟩
  one := C 1
  add_assoc _ _ _ := ext fun _ => CR.add_assoc _ _ _
  add_comm _ _ := ext fun _ => CR.add_comm _ _
  zero_add _ := ext fun _ => CR.zero_add _
  neg_add _ := ext fun _ => CR.neg_add _
  mul_comm f g := ext fun i => congrArg (fun s => Ser.c s i) (CR.mul_comm f.s g.s)
  one_mul f := ext fun i => congrArg (fun s => Ser.c s i) (CR.one_mul f.s)
  mul_add f g h := ext fun i => congrArg (fun s => Ser.c s i) (CR.mul_add f.s g.s h.s)
  mul_assoc f g h := ext fun i => congrArg (fun s => Ser.c s i) (CR.mul_assoc f.s g.s h.s)
theorem c_add (f g : Poly R) (i : Nat) : (f + g).c i = f.c i + g.c i := rfl
theorem c_neg (f : Poly R) (i : Nat) : (-f).c i = -f.c i := rfl
theorem c_mul (f g : Poly R) (k : Nat) : (f * g).c k = CR.sum (fun i => f.c i * g.c (k - i)) (k + 1) := rfl
theorem c_zero (i : Nat) : (0 : Poly R).c i = 0 := rfl
theorem c_C (a : R) (i : Nat) : (C a).c i = if i = 0 then a else 0 := rfl
theorem c_one (i : Nat) : (1 : Poly R).c i = if i = 0 then 1 else 0 := rfl
theorem c_X (n i : Nat) : (X n : Poly R).c i = if i = n then 1 else 0 := rfl
theorem C_mul_c (a : R) (f : Poly R) (k : Nat) : (C a * f).c k = a * f.c k := Ser.C_mul_c a f.s k
theorem X_mul_c (n : Nat) (f : Poly R) (k : Nat) : (X n * f).c k = if n ≤ k then f.c (k - n) else 0 := Ser.X_mul_c n f.s k
theorem C_mul (a b : R) : C (a * b) = C a * C b := ext fun i => congrArg (fun s => Ser.c s i) (Ser.C_mul a b)
theorem C_add (a b : R) : C (a + b) = C a + C b := ext fun i => congrArg (fun s => Ser.c s i) (Ser.C_add a b)
theorem C_neg (a : R) : C (-a) = -C a := ext fun i => congrArg (fun s => Ser.c s i) (Ser.C_neg a)
theorem C_zero : C (0 : R) = 0 := ext fun i => congrArg (fun s => Ser.c s i) Ser.C_zero
theorem C_one : C (1 : R) = 1 := rfl
theorem X_zero : X 0 = (1 : Poly R) := rfl
theorem X_add (m n : Nat) : X (m + n) = X m * (X n : Poly R) := ext fun i => congrArg (fun s => Ser.c s i) (Ser.X_add m n)
theorem pw_X (m : Nat) : ∀ n, CR.pw (X m : Poly R) n = X (m * n)
  | 0 => by rw [Nat.mul_zero]; rfl
  | n + 1 => by rw [CR.pw_succ, pw_X m n, Nat.mul_succ, X_add]
theorem pw_C (a : R) : ∀ n, CR.pw (C a) n = C (CR.pw a n)
  | 0 => rfl
  | n + 1 => by rw [CR.pw_succ, pw_C a n, CR.pw_succ, C_mul]
theorem bd.mono {f : Poly R} {m n : Nat} (h : f.bd m) (hmn : m ≤ n) : f.bd n := fun i hi => h i (by omega)
theorem bd_zero (n : Nat) : (0 : Poly R).bd n := fun _ _ => rfl
theorem bd.eq_zero {f : Poly R} (h : f.bd 0) : f = 0 := ext fun i => h i (Nat.zero_le _)
theorem bd.add {f g : Poly R} {n : Nat} (hf : f.bd n) (hg : g.bd n) : (f + g).bd n := Ser.bd.add hf hg
theorem bd.neg {f : Poly R} {n : Nat} (hf : f.bd n) : (-f).bd n := Ser.bd.neg hf
theorem bd.mul {f g : Poly R} {m n : Nat} (hf : f.bd (m + 1)) (hg : g.bd (n + 1)) : (f * g).bd (m + n + 1) := Ser.bd.mul hf hg
theorem top_mul {f g : Poly R} {m n : Nat} (hf : f.bd (m + 1)) (hg : g.bd (n + 1)) : (f * g).c (m + n) = f.c m * g.c n := Ser.top_mul hf hg
theorem bd_C (a : R) : (C a).bd 1 := Ser.bd_C a
theorem bd_X (n : Nat) : (X n : Poly R).bd (n + 1) := Ser.bd_X n
theorem bd.C_mul {f : Poly R} {n : Nat} (hf : f.bd n) (a : R) : (C a * f).bd n := Ser.bd.C_mul hf a
theorem bd.step {f : Poly R} {n : Nat} (hf : f.bd (n + 1)) : (f + -(C (f.c n) * X n)).bd n := Ser.bd.step hf
theorem bd.last {f : Poly R} {n : Nat} (hf : f.bd (n + 1)) (h : f.c n = 0) : f.bd n := Ser.bd.last hf h
theorem bd.ind {P : Poly R → Prop} (h0 : P 0) (h1 : ∀ f a n, P f → f.bd n → P (f + C a * X n)) : ∀ n (f : Poly R), f.bd n → P f
  | 0, f, h => by rw [h.eq_zero]; exact h0
  | n + 1, f, h => by
    have := h1 _ (f.c n) n (bd.ind h0 h1 n _ h.step) h.step
    rwa [CR.add_assoc, CR.neg_add, CR.add_zero] at this
theorem ind {P : Poly R → Prop} (h0 : P 0) (h1 : ∀ f a n, P f → f.bd n → P (f + C a * X n)) (f : Poly R) : P f := by
  obtain ⟨n, hn⟩ := f.fin; exact bd.ind h0 h1 n f hn

/-- how long one is: one more than its degree; 0 of 0 -/
theorem ex_len (f : Poly R) : ∃ n, f.bd n ∧ (n = 0 ∨ f.c (n - 1) ≠ 0) := by
  obtain ⟨n, hn⟩ := f.fin
  have : ∀ n, f.bd n → ∃ m, f.bd m ∧ (m = 0 ∨ f.c (m - 1) ≠ 0) := by
    intro n
    induction n with
    | zero => exact fun h => ⟨0, h, Or.inl rfl⟩
    | succ n ih =>
      intro h
      by_cases e : f.c n = 0
      · exact ih (bd.last h e)
      · exact ⟨n + 1, h, Or.inr e⟩
  exact this n hn
noncomputable def len (f : Poly R) : Nat := Classical.choose f.ex_len
theorem len_bd (f : Poly R) : f.bd f.len := (Classical.choose_spec f.ex_len).1
theorem len_top (f : Poly R) : f.len = 0 ∨ f.c (f.len - 1) ≠ 0 := (Classical.choose_spec f.ex_len).2
theorem len_le {f : Poly R} {n : Nat} (h : f.bd n) : f.len ≤ n := by
  rcases f.len_top with h1 | h1
  · omega
  · rcases Nat.lt_or_ge n f.len with h2 | h2
    · exact absurd (h _ (by omega)) h1
    · exact h2
theorem bd_of_len {f : Poly R} {n : Nat} (h : f.len ≤ n) : f.bd n := f.len_bd.mono h
theorem len_eq {f : Poly R} {n : Nat} (h : f.bd n) (h2 : n = 0 ∨ f.c (n - 1) ≠ 0) : f.len = n := by
  have := len_le h
  rcases h2 with h2 | h2
  · omega
  · rcases Nat.lt_or_ge f.len n with h3 | h3
    · exact absurd (f.len_bd _ (by omega)) h2
    · omega
theorem len_zero : (0 : Poly R).len = 0 := len_eq (bd_zero 0) (Or.inl rfl)
theorem len_eq_zero {f : Poly R} : f.len = 0 ↔ f = 0 := ⟨fun h => bd.eq_zero (h ▸ f.len_bd), fun h => h ▸ len_zero⟩
theorem len_pos {f : Poly R} (h : f ≠ 0) : 0 < f.len := Nat.pos_of_ne_zero fun e => h (len_eq_zero.1 e)
/-- the leading coefficient -/
noncomputable def lead (f : Poly R) : R := f.c (f.len - 1)
theorem lead_ne {f : Poly R} (h : f ≠ 0) : f.lead ≠ 0 := by
  rcases f.len_top with h1 | h1
  · exact absurd (len_eq_zero.1 h1) h
  · exact h1
theorem len_neg (f : Poly R) : (-f).len = f.len := by
  apply len_eq f.len_bd.neg
  rcases f.len_top with h1 | h1
  · exact Or.inl h1
  · exact Or.inr fun h => h1 (by have := congrArg (fun x => -x) h; simpa only [c_neg, CR.neg_neg, CR.neg_zero] using this)
theorem len_add_le {f g : Poly R} {n : Nat} (hf : f.len ≤ n) (hg : g.len ≤ n) : (f + g).len ≤ n := len_le ((bd_of_len hf).add (bd_of_len hg))

/-! values -/
def evn (a : R) (f : Poly R) (n : Nat) : R := CR.sum (fun i => f.c i * CR.pw a i) n
theorem evn_eq (a : R) {f : Poly R} {m n : Nat} (hm : f.bd m) (hn : f.bd n) : evn a f m = evn a f n := by
  have key : ∀ {m n : Nat}, f.bd m → m ≤ n → evn a f n = evn a f m := by
    intro m n hm hmn
    obtain ⟨k, rfl⟩ : ∃ k, n = m + k := ⟨n - m, by omega⟩
    exact CR.sum_ext k fun i h1 _ => by show f.c i * _ = 0; rw [show f.c i = 0 from hm i h1, CR.zero_mul]
  rcases Nat.le_total m n with h | h
  · exact (key hm h).symm
  · exact key hn h
noncomputable def ev (a : R) (f : Poly R) : R := evn a f f.len
theorem ev_eq (a : R) {f : Poly R} {n : Nat} (h : f.bd n) : ev a f = evn a f n := evn_eq a f.len_bd h
theorem ev_add (a : R) (f g : Poly R) : ev a (f + g) = ev a f + ev a g := by
  have hf : f.bd (f.len + g.len) := bd_of_len (by omega)
  have hg : g.bd (f.len + g.len) := bd_of_len (by omega)
  rw [ev_eq a (hf.add hg), ev_eq a hf, ev_eq a hg]
  simp only [evn, c_add, CR.add_mul, CR.sum_add]
theorem ev_zero (a : R) : ev a (0 : Poly R) = 0 := by rw [ev_eq a (bd_zero 0)]; rfl
theorem ev_CX (a b : R) (n : Nat) : ev a (C b * X n) = b * CR.pw a n := by
  rw [ev_eq a ((bd_X n).C_mul b)]
  show CR.sum _ (n + 1) = _
  rw [CR.sum_one (k := n) _ (by omega) (fun i _ h => by rw [C_mul_c, c_X, if_neg h, CR.mul_zero, CR.zero_mul])]
  rw [C_mul_c, c_X, if_pos rfl, CR.mul_one]
theorem ev_C (a b : R) : ev a (C b) = b := by
  have := ev_CX a b 0
  rwa [X_zero, CR.mul_one, CR.pw_zero, CR.mul_one] at this
theorem ev_one (a : R) : ev a (1 : Poly R) = 1 := ev_C a 1
theorem ev_X (a : R) (n : Nat) : ev a (X n) = CR.pw a n := by
  have := ev_CX a 1 n
  rwa [C_one, CR.one_mul, CR.one_mul] at this
theorem CX_mul (b d : R) (m n : Nat) : (C b * X m) * (C d * X n) = C (b * d) * (X (m + n) : Poly R) := by
  rw [C_mul, X_add]; ac_rfl
theorem ev_mul (a : R) (f g : Poly R) : ev a (f * g) = ev a f * ev a g := by
  refine ind (P := fun f => ev a (f * g) = ev a f * ev a g) ?_ ?_ f
  · rw [CR.zero_mul, ev_zero, CR.zero_mul]
  · intro f b m hf _
    rw [CR.add_mul, ev_add, ev_add, CR.add_mul, hf]
    congr 1
    refine ind (P := fun g => ev a (C b * X m * g) = ev a (C b * X m) * ev a g) ?_ ?_ g
    · rw [CR.mul_zero, ev_zero, CR.mul_zero]
    · intro g d n hg _
      rw [CR.mul_add, ev_add, ev_add, CR.mul_add, hg, CX_mul, ev_CX, ev_CX, ev_CX, CR.pw_add]
      ac_rfl
theorem ev_neg (a : R) (f : Poly R) : ev a (-f) = -ev a f := by
  apply CR.neg_eq; rw [← ev_add, CR.add_neg, ev_zero]

/-! derivatives -/
def D (f : Poly R) : Poly R := ⟨⟨fun i => CR.nat (i + 1) * f.c (i + 1)⟩, by
  obtain ⟨n, hn⟩ := f.fin
  exact ⟨n, fun i hi => by show _ * f.s.c (i + 1) = 0; rw [hn _ (by omega), CR.mul_zero]⟩⟩
theorem c_D (f : Poly R) (i : Nat) : (D f).c i = CR.nat (i + 1) * f.c (i + 1) := rfl
theorem D_add (f g : Poly R) : D (f + g) = D f + D g := ext fun i => by simp only [c_D, c_add, CR.mul_add]
theorem D_zero : D (0 : Poly R) = 0 := ext fun i => by rw [c_D, c_zero, CR.mul_zero]; rfl
/-- the derivative of one term -/
theorem D_CX (b : R) (n : Nat) : D (C b * X n) = C (CR.nat n * b) * (X (n - 1) : Poly R) := ext fun i => by
  rw [c_D, C_mul_c, C_mul_c, c_X, c_X]
  by_cases h : i + 1 = n
  · rw [if_pos h, if_pos (by omega), h, CR.mul_one, CR.mul_one]
  · rw [if_neg h]
    by_cases h2 : i = n - 1
    · have : n = 0 := by omega
      rw [if_pos h2, this, CR.nat_zero, CR.zero_mul, CR.zero_mul, CR.mul_zero, CR.mul_zero]
    · rw [if_neg h2, CR.mul_zero, CR.mul_zero, CR.mul_zero]
theorem C_zero_mul (f : Poly R) : C 0 * f = 0 := by rw [C_zero, CR.zero_mul]
theorem D_mul (f g : Poly R) : D (f * g) = D f * g + f * D g := by
  refine ind (P := fun f => D (f * g) = D f * g + f * D g) ?_ ?_ f
  · rw [CR.zero_mul, D_zero, CR.zero_mul, CR.zero_mul, CR.zero_add]
  · intro f b m hf _
    rw [CR.add_mul, D_add, D_add, CR.add_mul, CR.add_mul, hf]
    have key : D (C b * X m * g) = D (C b * X m) * g + C b * X m * D g := by
      refine ind (P := fun g => D (C b * X m * g) = D (C b * X m) * g + C b * X m * D g) ?_ ?_ g
      · rw [CR.mul_zero, D_zero, CR.mul_zero, CR.mul_zero, CR.zero_add]
      · intro g d n hg _
        rw [CR.mul_add, D_add, hg, D_add, CR.mul_add, CR.mul_add, CX_mul, D_CX, D_CX, D_CX, CX_mul, CX_mul]
        have e1 : C (CR.nat (m + n) * (b * d)) * (X (m + n - 1) : Poly R) = C (CR.nat m * b * d) * X (m - 1 + n) + C (b * (CR.nat n * d)) * X (m + (n - 1)) := by
          have hA : C (CR.nat m * b * d) * (X (m - 1 + n) : Poly R) = C (CR.nat m * b * d) * X (m + n - 1) := by
            by_cases h : m = 0
            · subst h; rw [CR.nat_zero, CR.zero_mul, CR.zero_mul, C_zero_mul, C_zero_mul]
            · rw [show m - 1 + n = m + n - 1 by omega]
          have hB : C (b * (CR.nat n * d)) * (X (m + (n - 1)) : Poly R) = C (b * (CR.nat n * d)) * X (m + n - 1) := by
            by_cases h : n = 0
            · subst h; rw [CR.nat_zero, CR.zero_mul, CR.mul_zero, C_zero_mul, C_zero_mul]
            · rw [show m + (n - 1) = m + n - 1 by omega]
          have hE : CR.nat (m + n) * (b * d) = CR.nat m * b * d + b * (CR.nat n * d) := by rw [CR.nat_add, CR.add_mul]; ac_rfl
          rw [hA, hB, ← CR.add_mul, ← C_add, hE]
        rw [e1]; ac_rfl
    rw [key]; ac_rfl
theorem D_C (a : R) : D (C a) = 0 := ext fun i => by rw [c_D, c_C, if_neg (by omega), CR.mul_zero]; rfl
theorem D_neg (f : Poly R) : D (-f) = -D f := by apply CR.neg_eq; rw [← D_add, CR.add_neg, D_zero]

/-! what divides what -/
def Dv (f g : Poly R) : Prop := ∃ q, g = f * q
theorem Dv.refl (f : Poly R) : Dv f f := ⟨1, (CR.mul_one f).symm⟩
theorem Dv.zero (f : Poly R) : Dv f 0 := ⟨0, (CR.mul_zero f).symm⟩
theorem Dv.trans {f g h : Poly R} (a : Dv f g) (b : Dv g h) : Dv f h := by
  obtain ⟨q, rfl⟩ := a; obtain ⟨r, rfl⟩ := b; exact ⟨q * r, CR.mul_assoc _ _ _⟩
theorem Dv.add {f g h : Poly R} (a : Dv f g) (b : Dv f h) : Dv f (g + h) := by
  obtain ⟨q, rfl⟩ := a; obtain ⟨r, rfl⟩ := b; exact ⟨q + r, (CR.mul_add _ _ _).symm⟩
theorem Dv.neg {f g : Poly R} (a : Dv f g) : Dv f (-g) := by obtain ⟨q, rfl⟩ := a; exact ⟨-q, (CR.mul_neg _ _).symm⟩
theorem Dv.mul_left {f g : Poly R} (a : Dv f g) (h : Poly R) : Dv f (h * g) := by obtain ⟨q, rfl⟩ := a; exact ⟨h * q, CR.mul_left_comm _ _ _⟩
theorem Dv.mul_right {f g : Poly R} (a : Dv f g) (h : Poly R) : Dv f (g * h) := by rw [CR.mul_comm]; exact a.mul_left h
theorem Dv.self_mul (f g : Poly R) : Dv f (f * g) := ⟨g, rfl⟩
theorem Dv.mul_self (f g : Poly R) : Dv f (g * f) := ⟨g, CR.mul_comm _ _⟩
theorem Dv.one (f : Poly R) : Dv 1 f := ⟨f, (CR.one_mul f).symm⟩
theorem Dv.mul_mul {f g : Poly R} (a : Dv f g) (h : Poly R) : Dv (f * h) (g * h) := by obtain ⟨q, rfl⟩ := a; exact ⟨q, by ac_rfl⟩
theorem Dv.of_zero {f : Poly R} (h : Dv 0 f) : f = 0 := by obtain ⟨q, rfl⟩ := h; exact CR.zero_mul q
theorem Dv.of_add {f g h : Poly R} (a : Dv f (g + h)) (b : Dv f h) : Dv f g := by
  have := a.add b.neg; rwa [CR.add_assoc, CR.add_neg, CR.add_zero] at this
end Poly
end Alg
