import Derived.Test.YtcefhnmhcapccaaDoorA3
namespace Alg

/-- a ring in which what is not 0 has an inverse -/
class IsFd (R : Type) [CR R] : Prop where
  ex_inv : ∀ a : R, a ≠ 0 → ∃ b, a * b = 1
  one_ne : (1 : R) ≠ 0

theorem Fp.isFd {p : Nat} [NeZero p] (hp : IsPr p) : IsFd (Fp p) := ⟨fun a h => ⟨a.inv, Fp.mul_inv hp h⟩, Fp.one_ne_zero hp⟩

namespace IsFd
variable {R : Type} [CR R] [IsFd R]
theorem mul_eq_zero {a b : R} (h : a * b = 0) : a = 0 ∨ b = 0 := by
  by_cases ha : a = 0
  · exact Or.inl ha
  · obtain ⟨c, hc⟩ := ex_inv a ha
    right
    have : c * (a * b) = b := by rw [← CR.mul_assoc, CR.mul_comm c, hc, CR.one_mul]
    rw [← this, h, CR.mul_zero]
theorem mul_ne {a b : R} (ha : a ≠ 0) (hb : b ≠ 0) : a * b ≠ 0 := fun h => (mul_eq_zero h).elim ha hb
omit [IsFd R] in
theorem neg_ne {a : R} (ha : a ≠ 0) : -a ≠ 0 := fun h => ha (by have := congrArg (fun x => -x) h; simpa only [CR.neg_neg, CR.neg_zero] using this)
end IsFd

namespace Poly
variable {R : Type} [CR R]
def Monic (f : Poly R) : Prop := f.lead = 1
theorem C_ne {a : R} (h : a ≠ 0) : C a ≠ 0 := fun e => h (by have := congrArg (fun f => c f 0) e; simpa [c_C, c_zero] using this)
theorem len_C {a : R} (h : a ≠ 0) : (C a).len = 1 := len_eq (bd_C a) (Or.inr (by rw [c_C, if_pos rfl]; exact h))
theorem len_le_one {f : Poly R} (h : f.len ≤ 1) : f = C (f.c 0) := ext fun i => by
  rw [c_C]; by_cases e : i = 0
  · rw [if_pos e, e]
  · rw [if_neg e]; exact bd_of_len h i (by omega)

variable [IsFd R]
theorem one_ne : (1 : Poly R) ≠ 0 := C_ne IsFd.one_ne
theorem len_one : (1 : Poly R).len = 1 := len_C IsFd.one_ne
theorem len_X (n : Nat) : (X n : Poly R).len = n + 1 := len_eq (bd_X n) (Or.inr (by rw [c_X, if_pos (by omega)]; exact IsFd.one_ne))
theorem mul_len {f g : Poly R} (hf : f ≠ 0) (hg : g ≠ 0) : (f * g).len = f.len + g.len - 1 ∧ (f * g).lead = f.lead * g.lead := by
  obtain ⟨m, hm⟩ : ∃ m, f.len = m + 1 := ⟨f.len - 1, by have := len_pos hf; omega⟩
  obtain ⟨n, hn⟩ : ∃ n, g.len = n + 1 := ⟨g.len - 1, by have := len_pos hg; omega⟩
  have bf : f.bd (m + 1) := hm ▸ f.len_bd
  have bg : g.bd (n + 1) := hn ▸ g.len_bd
  have lf := lead_ne hf
  have lg := lead_ne hg
  have ht : (f * g).c (m + n) = f.lead * g.lead := by rw [top_mul bf bg, lead, lead, hm, hn]; rfl
  have hl : (f * g).len = m + n + 1 := len_eq (bf.mul bg) (Or.inr (by rw [show m + n + 1 - 1 = m + n by omega, ht]; exact IsFd.mul_ne lf lg))
  refine ⟨by omega, ?_⟩
  rw [lead, hl, show m + n + 1 - 1 = m + n by omega, ht]
theorem len_mul {f g : Poly R} (hf : f ≠ 0) (hg : g ≠ 0) : (f * g).len = f.len + g.len - 1 := (mul_len hf hg).1
theorem lead_mul {f g : Poly R} (hf : f ≠ 0) (hg : g ≠ 0) : (f * g).lead = f.lead * g.lead := (mul_len hf hg).2
theorem mul_ne {f g : Poly R} (hf : f ≠ 0) (hg : g ≠ 0) : f * g ≠ 0 := fun h => by
  have := len_mul hf hg
  rw [h, len_zero] at this
  have := len_pos hf; have := len_pos hg; omega
theorem mul_eq_zero {f g : Poly R} (h : f * g = 0) : f = 0 ∨ g = 0 := by
  by_cases hf : f = 0
  · exact Or.inl hf
  · by_cases hg : g = 0
    · exact Or.inr hg
    · exact absurd h (mul_ne hf hg)
theorem mul_left_cancel {f g h : Poly R} (hf : f ≠ 0) (e : f * g = f * h) : g = h := by
  have : f * (g + -h) = 0 := by rw [CR.mul_add, CR.mul_neg, e, CR.add_neg]
  rcases mul_eq_zero this with h1 | h1
  · exact absurd h1 hf
  · exact CR.add_neg_eq_zero h1
theorem mul_right_cancel {f g h : Poly R} (hf : f ≠ 0) (e : g * f = h * f) : g = h := by
  rw [CR.mul_comm g, CR.mul_comm h] at e; exact mul_left_cancel hf e
theorem len_C_mul {a : R} (ha : a ≠ 0) (f : Poly R) : (C a * f).len = f.len := by
  by_cases hf : f = 0
  · rw [hf, CR.mul_zero]
  · rw [len_mul (C_ne ha) hf, len_C ha]; omega
theorem Dv.len_le {f g : Poly R} (h : Dv f g) (hg : g ≠ 0) : f.len ≤ g.len := by
  obtain ⟨q, rfl⟩ := h
  have hf : f ≠ 0 := fun e => hg (by rw [e, CR.zero_mul])
  have hq : q ≠ 0 := fun e => hg (by rw [e, CR.mul_zero])
  rw [len_mul hf hq]; have := len_pos hq; omega
omit [IsFd R] in
theorem lead_C {a : R} (ha : a ≠ 0) : (C a).lead = a := by rw [lead, len_C ha]; rfl
theorem Monic.ne {f : Poly R} (h : f.Monic) : f ≠ 0 := fun e => by
  have h1 : f.c (f.len - 1) = 1 := h
  rw [e, c_zero] at h1; exact IsFd.one_ne h1.symm
theorem Monic.mul {f g : Poly R} (hf : f.Monic) (hg : g.Monic) : (f * g).Monic := by
  show _ = (1 : R); rw [lead_mul hf.ne hg.ne, hf, hg, CR.one_mul]
theorem monic_one : (1 : Poly R).Monic := lead_C IsFd.one_ne

/-! division -/
theorem div_ex (g : Poly R) (hg : g ≠ 0) : ∀ n (f : Poly R), f.len ≤ n → ∃ q r, f = q * g + r ∧ r.len < g.len
  | n, f, hn => by
    by_cases h : f.len < g.len
    · exact ⟨0, f, by rw [CR.zero_mul, CR.zero_add], h⟩
    · obtain ⟨k, hk⟩ : ∃ k, g.len = k + 1 := ⟨g.len - 1, by have := len_pos hg; omega⟩
      cases n with
      | zero => omega
      | succ n =>
        obtain ⟨b, hb⟩ := IsFd.ex_inv g.lead (lead_ne hg)
        obtain ⟨m, hm⟩ : ∃ m, f.len = m + 1 := ⟨f.len - 1, by omega⟩
        -- the top is taken away
        have hbd : (f + -(C (f.c m * b) * X (m - k) * g)).len ≤ m := by
          apply len_le
          intro i hi
          show (f + -(C (f.c m * b) * X (m - k) * g)).c i = 0
          rw [c_add, c_neg, CR.mul_assoc, C_mul_c, X_mul_c]
          by_cases hi2 : i = m
          · subst hi2
            rw [if_pos (by omega), show i - (i - k) = k by omega]
            have : g.c k = g.lead := by rw [lead, hk]; rfl
            rw [this, CR.mul_assoc, CR.mul_comm b, hb, CR.mul_one, CR.add_neg]
          · have : f.c i = 0 := f.len_bd i (by omega)
            rw [this, CR.zero_add]
            by_cases h3 : m - k ≤ i
            · rw [if_pos h3]
              have : g.c (i - (m - k)) = 0 := g.len_bd _ (by omega)
              rw [this, CR.mul_zero, CR.neg_zero]
            · rw [if_neg h3, CR.mul_zero, CR.neg_zero]
        obtain ⟨q, r, e, hr⟩ := div_ex g hg n _ (Nat.le_trans hbd (by omega))
        refine ⟨q + C (f.c m * b) * X (m - k), r, ?_, hr⟩
        have e2 : f + -(C (f.c m * b) * X (m - k) * g) + C (f.c m * b) * X (m - k) * g = q * g + r + C (f.c m * b) * X (m - k) * g := congrArg (· + C (f.c m * b) * X (m - k) * g) e
        rw [CR.add_assoc, CR.neg_add, CR.add_zero] at e2
        rw [CR.add_mul]
        exact e2.trans (by ac_rfl)
theorem div (f g : Poly R) (hg : g ≠ 0) : ∃ q r, f = q * g + r ∧ r.len < g.len := div_ex g hg f.len f (Nat.le_refl _)
theorem div_unique {f g q r q' r' : Poly R} (h : f = q * g + r) (hr : r.len < g.len) (h' : f = q' * g + r') (hr' : r'.len < g.len) : q = q' ∧ r = r' := by
  have hg : g ≠ 0 := fun e => by rw [e, len_zero] at hr; omega
  have e : (q + -q') * g = r' + -r := by
    apply CR.add_right_cancel (c := q' * g + r)
    have h1 : (q + -q') * g + (q' * g + r) = q * g + r + (-q' + q') * g := by rw [CR.add_mul, CR.add_mul (-q')]; ac_rfl
    have h2 : r' + -r + (q' * g + r) = q' * g + r' + (-r + r) := by ac_rfl
    rw [h1, h2, CR.neg_add, CR.neg_add, CR.zero_mul, CR.add_zero, CR.add_zero, ← h, ← h']
  have hl : (r' + -r).len < g.len := by
    have : (r' + -r).len ≤ g.len - 1 := len_add_le (by omega) (by rw [len_neg]; omega)
    omega
  have hq : q + -q' = 0 := by
    by_cases h0 : q + -q' = 0
    · exact h0
    · have := len_mul h0 hg
      rw [e] at this
      have := len_pos h0; omega
  refine ⟨CR.add_neg_eq_zero hq, ?_⟩
  rw [hq, CR.zero_mul] at e
  exact (CR.add_neg_eq_zero e.symm).symm
theorem dv_rem {f g q r : Poly R} (h : f = q * g + r) (hr : r.len < g.len) : Dv g f ↔ r = 0 := by
  constructor
  · rintro ⟨s, hs⟩
    exact ((div_unique h hr (q' := s) (r' := 0) (by rw [hs, CR.add_zero, CR.mul_comm]) (by rw [len_zero]; omega)).2)
  · rintro rfl
    exact ⟨q, by rw [h, CR.add_zero, CR.mul_comm]⟩

/-! greatest common divisors -/
theorem dv_antisymm {f g : Poly R} (hf : f = 0 ∨ f.Monic) (hg : g = 0 ∨ g.Monic) (h1 : Dv f g) (h2 : Dv g f) : f = g := by
  by_cases h0 : f = 0
  · subst h0; exact (h1.of_zero).symm
  · have h0' : g ≠ 0 := fun e => h0 (by subst e; exact h2.of_zero)
    have mf := hf.resolve_left h0
    have mg := hg.resolve_left h0'
    obtain ⟨q, hq⟩ := h1
    have hq0 : q ≠ 0 := fun e => h0' (by rw [hq, e, CR.mul_zero])
    have hl := h2.len_le h0
    have hl2 := len_mul h0 hq0
    rw [← hq] at hl2
    have := len_pos hq0
    have hq1 := len_le_one (f := q) (by omega)
    have hlead := lead_mul h0 hq0
    rw [← hq, mg, mf, CR.one_mul] at hlead
    have : q.lead = q.c 0 := by rw [lead, show q.len = 1 by omega]
    rw [this] at hlead
    rw [hq, hq1, ← hlead, C_one, CR.mul_one]
structure IsGcd (d f g : Poly R) : Prop where
  left : Dv d f
  right : Dv d g
  most : ∀ e, Dv e f → Dv e g → Dv e d
theorem IsGcd.unique {d e f g : Poly R} (hd : IsGcd d f g) (he : IsGcd e f g) (md : d = 0 ∨ d.Monic) (me : e = 0 ∨ e.Monic) : d = e :=
  dv_antisymm md me (he.most d hd.left hd.right) (hd.most e he.left he.right)
omit [IsFd R] in
theorem IsGcd.of_comb {d f g u v : Poly R} (h1 : Dv d f) (h2 : Dv d g) (h : d = u * f + v * g) : IsGcd d f g :=
  ⟨h1, h2, fun _ a b => h ▸ (a.mul_left u).add (b.mul_left v)⟩
omit [IsFd R] in
theorem IsGcd.symm {d f g : Poly R} (h : IsGcd d f g) : IsGcd d g f := ⟨h.right, h.left, fun e a b => h.most e b a⟩
theorem gcd_ex : ∀ n (f g : Poly R), g.len ≤ n → ∃ d u v, d = u * f + v * g ∧ Dv d f ∧ Dv d g
  | 0, f, g, h => by
    have : g = 0 := len_eq_zero.1 (by omega)
    subst this
    exact ⟨f, 1, 0, by rw [CR.one_mul, CR.mul_zero, CR.add_zero], Dv.refl _, Dv.zero _⟩
  | n + 1, f, g, h => by
    by_cases hg : g = 0
    · subst hg; exact ⟨f, 1, 0, by rw [CR.one_mul, CR.mul_zero, CR.add_zero], Dv.refl _, Dv.zero _⟩
    · obtain ⟨q, r, e, hr⟩ := div f g hg
      obtain ⟨d, u, v, hd, h1, h2⟩ := gcd_ex n g r (by omega)
      refine ⟨d, v, u + -(v * q), ?_, ?_, h1⟩
      · rw [hd, e, CR.mul_add, CR.add_mul, CR.neg_mul]
        have : v * (q * g) + v * r + (u * g + -(v * q * g)) = u * g + v * r + (v * (q * g) + -(v * (q * g))) := by rw [CR.mul_assoc]; ac_rfl
        rw [this, CR.add_neg, CR.add_zero]
      · rw [e]; exact (h1.mul_left q).add h2
theorem monic_of (f : Poly R) (hf : f ≠ 0) : ∃ a : R, a ≠ 0 ∧ (C a * f).Monic := by
  obtain ⟨b, hb⟩ := IsFd.ex_inv f.lead (lead_ne hf)
  have hb0 : b ≠ 0 := fun e => IsFd.one_ne (by rw [← hb, e, CR.mul_zero])
  refine ⟨b, hb0, ?_⟩
  show _ = (1 : R)
  rw [lead_mul (C_ne hb0) hf, lead_C hb0, CR.mul_comm, hb]
theorem dv_C_mul {a : R} (ha : a ≠ 0) (f : Poly R) : Dv (C a * f) f := by
  obtain ⟨b, hb⟩ := IsFd.ex_inv a ha
  exact ⟨C b, by rw [CR.mul_comm (C a), CR.mul_assoc, ← C_mul, hb, C_one, CR.mul_one]⟩
omit [IsFd R] in
/-- what both have a factor more of, their gcd has -/
theorem IsGcd.mul_right {d f g u v : Poly R} (h1 : Dv d f) (h2 : Dv d g) (h : d = u * f + v * g) (k : Poly R) : IsGcd (d * k) (f * k) (g * k) :=
  .of_comb (u := u) (v := v) (h1.mul_mul k) (h2.mul_mul k) (by rw [h, CR.add_mul]; ac_rfl)
/-- coprime: a combination is 1 -/
def Cop (f g : Poly R) : Prop := ∃ u v, (1 : Poly R) = u * f + v * g
omit [IsFd R] in
theorem Cop.symm {f g : Poly R} (h : Cop f g) : Cop g f := by obtain ⟨u, v, h⟩ := h; exact ⟨v, u, by rw [h, CR.add_comm]⟩
omit [IsFd R] in
theorem Cop.dv {f g h : Poly R} (hc : Cop f g) (hd : Dv f (g * h)) : Dv f h := by
  obtain ⟨u, v, e⟩ := hc
  have : h = u * f * h + v * (g * h) := by
    have h1 : 1 * h = (u * f + v * g) * h := congrArg (· * h) e
    rw [CR.one_mul, CR.add_mul] at h1
    exact h1.trans (by ac_rfl)
  rw [this]
  exact (((Dv.refl f).mul_left u).mul_right h).add (hd.mul_left v)
omit [IsFd R] in
theorem Cop.mul {f g h : Poly R} (a : Cop f g) (b : Cop f h) : Cop f (g * h) := by
  obtain ⟨u, v, e⟩ := a; obtain ⟨s, t, e2⟩ := b
  refine ⟨u * s * f + u * t * h + v * g * s, v * t, ?_⟩
  have : (1 : Poly R) = (u * f + v * g) * (s * f + t * h) := by rw [← e, ← e2, CR.one_mul]
  rw [this]; simp only [CR.add_mul, CR.mul_add]; ac_rfl
omit [IsFd R] in
theorem Cop.of_dv {f g h k : Poly R} (a : Cop f g) (hf : Dv h f) (hg : Dv k g) : Cop h k := by
  obtain ⟨u, v, e⟩ := a; obtain ⟨q, rfl⟩ := hf; obtain ⟨r, rfl⟩ := hg
  exact ⟨u * q, v * r, by rw [e]; ac_rfl⟩
end Poly
end Alg
