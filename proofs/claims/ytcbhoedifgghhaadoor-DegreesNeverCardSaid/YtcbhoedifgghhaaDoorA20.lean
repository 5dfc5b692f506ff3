/- Finite fields: powers by the prime's powers modulo an irreducible polynomial; which degrees divide; the test of irreducibility. The field of the remainders by an irreducible polynomial; which degrees divide; the test of irreducibility. The test of irreducibility; the parts by degrees: in words of polynomials. The primes that divide a number, rising. The primes that divide a number, found by trying one number behind the other; the steps of a paper. -/
import Derived.Test.YtcbhoedifgghhaaDoorP1
section
open Alg
namespace Alg
open Poly

/-- lists without doubles -/
theorem nodup_le {α : Type} : ∀ (l m : List α), l.Nodup → (∀ x, x ∈ l → x ∈ m) → l.length ≤ m.length
  | [], _, _, _ => Nat.zero_le _
  | a :: l, m, hn, h => by
    have ha : a ∈ m := h a (List.mem_cons_self ..)
    obtain ⟨s, t, rfl⟩ := List.append_of_mem ha
    have hn' := List.nodup_cons.1 hn
    have := nodup_le l (s ++ t) hn'.2 (fun x hx => by
      have h1 := h x (List.mem_cons_of_mem _ hx)
      rw [List.mem_append, List.mem_cons] at h1
      rw [List.mem_append]
      rcases h1 with h1 | h1 | h1
      · exact Or.inl h1
      · exact absurd (h1 ▸ hx) hn'.1
      · exact Or.inr h1)
    simp only [List.length_append, List.length_cons] at this ⊢
    omega
theorem nodup_perm {α : Type} : ∀ (l m : List α), l.Nodup → (∀ x, x ∈ l → x ∈ m) → m.length ≤ l.length → l.Perm m
  | [], m, _, _, h => by
    have : m = [] := List.eq_nil_of_length_eq_zero (Nat.le_zero.1 h)
    rw [this]
  | a :: l, m, hn, h, hl => by
    have ha : a ∈ m := h a (List.mem_cons_self ..)
    obtain ⟨s, t, rfl⟩ := List.append_of_mem ha
    have hn' := List.nodup_cons.1 hn
    have := nodup_perm l (s ++ t) hn'.2 (fun x hx => by
      have h1 := h x (List.mem_cons_of_mem _ hx)
      rw [List.mem_append, List.mem_cons] at h1
      rw [List.mem_append]
      rcases h1 with h1 | h1 | h1
      · exact Or.inl h1
      · exact absurd (h1 ▸ hx) hn'.1
      · exact Or.inr h1) (by
      simp only [List.length_append, List.length_cons] at hl ⊢
      omega)
    exact (this.cons a).trans List.perm_middle.symm
theorem nodup_map {α β : Type} (f : α → β) : ∀ (l : List α), l.Nodup → (∀ x y, x ∈ l → y ∈ l → f x = f y → x = y) → (l.map f).Nodup
  | [], _, _ => List.nodup_nil
  | a :: l, hn, h => by
    have hn' := List.nodup_cons.1 hn
    rw [List.map_cons, List.nodup_cons]
    refine ⟨fun hm => ?_, nodup_map f l hn'.2 fun x y hx hy => h x y (List.mem_cons_of_mem _ hx) (List.mem_cons_of_mem _ hy)⟩
    obtain ⟨b, hb, e⟩ := List.mem_map.1 hm
    have := h b a (List.mem_cons_of_mem _ hb) (List.mem_cons_self ..) e
    exact hn'.1 (this ▸ hb)

section prod
variable {R : Type} [CR R]
def prodL : List R → R
  | [] => 1
  | a :: l => a * prodL l
theorem prodL_perm {l m : List R} (h : l.Perm m) : prodL l = prodL m := by
  induction h with
  | nil => rfl
  | cons a _ ih => show a * _ = a * _; rw [ih]
  | swap a b l => show b * (a * _) = a * (b * _); rw [CR.mul_left_comm]
  | trans _ _ h1 h2 => rw [h1, h2]
theorem prodL_map (a : R) : ∀ l : List R, prodL (l.map (a * ·)) = CR.pw a l.length * prodL l
  | [] => by show (1 : R) = 1 * 1; rw [CR.one_mul]
  | b :: l => by
    show a * b * prodL (l.map (a * ·)) = CR.pw a l.length * a * (b * prodL l)
    rw [prodL_map a l]; ac_rfl
theorem prodL_ne [IsFd R] : ∀ l : List R, (∀ x, x ∈ l → x ≠ 0) → prodL l ≠ 0
  | [], _ => IsFd.one_ne
  | a :: l, h => IsFd.mul_ne (h a (List.mem_cons_self ..)) (prodL_ne l fun x hx => h x (List.mem_cons_of_mem _ hx))
/-- in a finite field each element to the power of their number is itself -/
theorem fin_pow [IsFd R] (els : List R) (hn : els.Nodup) (hall : ∀ x, x ∈ els) (a : R) : CR.pw a els.length = a := by
  classical
  have h0 : (0 : R) ∈ els := hall 0
  obtain ⟨s, t, e⟩ := List.append_of_mem h0
  have hp : els.Perm (0 :: (s ++ t)) := by rw [e]; exact List.perm_middle
  have hn2 : (0 :: (s ++ t)).Nodup := hp.nodup_iff.1 hn
  have hn3 := List.nodup_cons.1 hn2
  have hmem : ∀ x, x ≠ 0 → x ∈ s ++ t := fun x hx => by
    have := hp.mem_iff.1 (hall x)
    exact (List.mem_cons.1 this).resolve_left hx
  have hlen : els.length = (s ++ t).length + 1 := hp.length_eq
  rw [hlen, CR.pw_succ]
  by_cases ha : a = 0
  · rw [ha, CR.mul_zero]
  have hne : ∀ x, x ∈ s ++ t → x ≠ 0 := fun x hx e => hn3.1 (e ▸ hx)
  have hcan : ∀ x y : R, a * x = a * y → x = y := fun x y h => by
    apply CR.add_neg_eq_zero
    have : a * (x + -y) = 0 := by rw [CR.mul_add, CR.mul_neg, h, CR.add_neg]
    exact (IsFd.mul_eq_zero this).resolve_left ha
  have hperm : ((s ++ t).map (a * ·)).Perm (s ++ t) := by
    apply nodup_perm
    · exact nodup_map _ _ hn3.2 fun x y _ _ h => hcan x y h
    · intro x hx
      obtain ⟨y, hy, rfl⟩ := List.mem_map.1 hx
      exact hmem _ (IsFd.mul_ne ha (hne y hy))
    · rw [List.length_map]; exact Nat.le_refl _
  have h1 := prodL_perm hperm
  rw [prodL_map] at h1
  have h2 : (CR.pw a (s ++ t).length + -1) * prodL (s ++ t) = 0 := by
    rw [CR.add_mul, h1, CR.neg_mul, CR.one_mul, CR.add_neg]
  have h3 := (IsFd.mul_eq_zero h2).resolve_right (prodL_ne _ hne)
  rw [CR.add_neg_eq_zero h3, CR.one_mul]
end prod

section roots
variable {R : Type} [CR R] [IsFd R]
theorem root_factor (h : Poly R) (a : R) (e : ev a h = 0) : ∃ q, h = q * (X 1 + -C a) := by
  have hl : (X 1 + -C a : Poly R).len = 2 := len_eq ((bd_X 1).add (((bd_C a).mono (by omega)).neg)) (Or.inr (by
    rw [c_add, c_neg, c_X, c_C]
    show (if (1 : Nat) = 1 then (1 : R) else 0) + -(if (1 : Nat) = 0 then a else 0) ≠ 0
    rw [if_pos rfl, if_neg (by omega), CR.neg_zero, CR.add_zero]; exact IsFd.one_ne))
  have hne : (X 1 + -C a : Poly R) ≠ 0 := fun h0 => by rw [h0, len_zero] at hl; omega
  obtain ⟨q, r, hq, hr⟩ := Poly.div h _ hne
  rw [hl] at hr
  have hr1 := len_le_one (f := r) (by omega)
  have h2 : ev a h = r.c 0 := by
    rw [hq, ev_add, ev_mul, ev_add, ev_neg, ev_X, ev_C, CR.pw_one, CR.add_neg, CR.mul_zero, CR.zero_add, hr1, ev_C]
    rw [c_C, if_pos rfl]
  refine ⟨q, ?_⟩
  rw [hq, hr1, ← h2, e, C_zero, CR.add_zero]
theorem roots_len : ∀ (l : List R) (h : Poly R), h ≠ 0 → l.Nodup → (∀ a, a ∈ l → ev a h = 0) → l.length < h.len
  | [], h, h0, _, _ => len_pos h0
  | a :: l, h, h0, hn, hr => by
    have hn' := List.nodup_cons.1 hn
    obtain ⟨q, hq⟩ := root_factor h a (hr a (List.mem_cons_self ..))
    have hq0 : q ≠ 0 := fun e => h0 (by rw [hq, e, CR.zero_mul])
    have hx0 : (X 1 + -C a : Poly R) ≠ 0 := fun e => h0 (by rw [hq, e, CR.mul_zero])
    have hl : (X 1 + -C a : Poly R).len = 2 := len_eq ((bd_X 1).add (((bd_C a).mono (by omega)).neg)) (Or.inr (by
      rw [c_add, c_neg, c_X, c_C]
      show (if (1 : Nat) = 1 then (1 : R) else 0) + -(if (1 : Nat) = 0 then a else 0) ≠ 0
      rw [if_pos rfl, if_neg (by omega), CR.neg_zero, CR.add_zero]; exact IsFd.one_ne))
    have h2 := len_mul hq0 hx0
    have h1 := roots_len l q hq0 hn'.2 (fun b hb => by
      have hb2 := hr b (List.mem_cons_of_mem _ hb)
      rw [hq, ev_mul, ev_add, ev_neg, ev_X, ev_C, CR.pw_one] at hb2
      refine (IsFd.mul_eq_zero hb2).resolve_right fun e => ?_
      exact hn'.1 (CR.add_neg_eq_zero e ▸ hb))
    rw [← hq, hl] at h2
    simp only [List.length_cons]
    omega
end roots

/-- irreducible -/
def Irr {R : Type} [CR R] (g : Poly R) : Prop := 1 < g.len ∧ ∀ d, Dv d g → d.len = 1 ∨ Dv g d

section irr
variable {R : Type} [CR R] [IsFd R]
theorem len_one_dv {d : Poly R} (h : d.len = 1) (f : Poly R) : Dv d f := by
  have h0 : d = C (d.c 0) := len_le_one (by omega)
  have hc : d.c 0 ≠ 0 := fun e => by rw [h0, e, C_zero, len_zero] at h; omega
  obtain ⟨b, hb⟩ := IsFd.ex_inv _ hc
  refine ⟨C b * f, ?_⟩
  rw [h0, ← CR.mul_assoc, ← C_mul, hb, C_one, CR.one_mul]
theorem cop_len {d f g : Poly R} (hc : Cop f g) (h1 : Dv d f) (h2 : Dv d g) : d.len = 1 := by
  obtain ⟨u, v, e⟩ := hc
  have hd : Dv d 1 := by rw [e]; exact (h1.mul_left u).add (h2.mul_left v)
  have h3 := hd.len_le one_ne
  rw [len_one] at h3
  have h4 : d ≠ 0 := fun e0 => one_ne (R := R) (Dv.of_zero (e0 ▸ hd))
  have := len_pos h4
  omega
omit [IsFd R] in
theorem Irr.ne {g : Poly R} (h : Irr g) : g ≠ 0 := fun e => by have := h.1; rw [e, len_zero] at this; omega
theorem Irr.cop {g : Poly R} (h : Irr g) {f : Poly R} (hf : ¬ Dv g f) : Cop f g := by
  obtain ⟨d, u, v, e, h1, h2⟩ := gcd_ex g.len f g (Nat.le_refl _)
  rcases h.2 d h2 with h3 | h3
  · have h0 : d = C (d.c 0) := len_le_one (by omega)
    have hc : d.c 0 ≠ 0 := fun e => by rw [h0, e, C_zero, len_zero] at h3; omega
    obtain ⟨b, hb⟩ := IsFd.ex_inv _ hc
    refine ⟨C b * u, C b * v, ?_⟩
    have : C b * d = 1 := by rw [h0, ← C_mul, CR.mul_comm, hb, C_one]
    rw [CR.mul_assoc, CR.mul_assoc, ← CR.mul_add, ← e, this]
  · exact absurd (h3.trans h1) hf
theorem Irr.dv_mul {g : Poly R} (h : Irr g) {a b : Poly R} (hd : Dv g (a * b)) : Dv g a ∨ Dv g b := by
  by_cases ha : Dv g a
  · exact Or.inl ha
  · exact Or.inr ((h.cop ha).symm.dv hd)
theorem irr_ex : ∀ n (f : Poly R), f.len ≤ n → 1 < f.len → ∃ g, Irr g ∧ Dv g f
  | 0, f, h, h1 => absurd h (by omega)
  | n + 1, f, h, h1 => by
    by_cases hi : Irr f
    · exact ⟨f, hi, Dv.refl f⟩
    have : ∃ d, Dv d f ∧ d.len ≠ 1 ∧ ¬ Dv f d := Classical.byContradiction fun hn => hi ⟨h1, fun d hd => by
      by_cases h2 : d.len = 1
      · exact Or.inl h2
      · exact Or.inr (Classical.byContradiction fun h3 => hn ⟨d, hd, h2, h3⟩)⟩
    obtain ⟨d, hd, h2, h3⟩ := this
    have f0 : f ≠ 0 := fun e => by rw [e, len_zero] at h1; omega
    have d0 : d ≠ 0 := fun e => f0 (Dv.of_zero (e ▸ hd))
    have hl : d.len < f.len := by
      refine Nat.lt_of_le_of_ne (hd.len_le f0) fun e => h3 ?_
      obtain ⟨q, hq⟩ := hd
      have q0 : q ≠ 0 := fun e => f0 (by rw [hq, e, CR.mul_zero])
      have h4 := len_mul d0 q0
      rw [← hq] at h4
      have h5 := len_pos q0
      have h6 := len_pos d0
      have hq1 : q.len = 1 := by omega
      have h0 : q = C (q.c 0) := len_le_one (by omega)
      have hc : q.c 0 ≠ 0 := fun e => by rw [h0, e, C_zero, len_zero] at hq1; omega
      rw [hq, h0, CR.mul_comm]
      exact dv_C_mul hc d
    have := len_pos d0
    obtain ⟨g, hg, hgd⟩ := irr_ex n d (by omega) (by omega)
    exact ⟨g, hg, hgd.trans hd⟩
end irr
end Alg
end
section
open Alg
namespace Alg
open Poly

/-- digits -/
theorem digits_ex (p : Nat) (hp : 0 < p) (c : Nat → Nat) (hc : ∀ i, c i < p) : ∀ m, ∃ n, n < p ^ m ∧ ∀ i, i < m → n / p ^ i % p = c i
  | 0 => ⟨0, by rw [Nat.pow_zero]; omega, fun i hi => absurd hi (by omega)⟩
  | m + 1 => by
    obtain ⟨n, hn, hd⟩ := digits_ex p hp (fun i => c (i + 1)) (fun i => hc (i + 1)) m
    refine ⟨c 0 + p * n, ?_, fun i hi => ?_⟩
    · rw [Nat.pow_succ]
      have h0 := hc 0
      have : p * (n + 1) ≤ p * p ^ m := Nat.mul_le_mul_left p hn
      rw [Nat.mul_succ] at this
      rw [Nat.mul_comm (p ^ m)]; omega
    · cases i with
      | zero => rw [Nat.pow_zero, Nat.div_one, Nat.add_mul_mod_self_left, Nat.mod_eq_of_lt (hc 0)]
      | succ i =>
        rw [Nat.pow_succ, Nat.mul_comm (p ^ i), ← Nat.div_div_eq_div_mul, Nat.add_mul_div_left _ _ hp, Nat.div_eq_of_lt (hc 0), Nat.zero_add]
        exact hd i (by omega)
theorem digits_inj (p : Nat) (hp : 0 < p) : ∀ m a b, a < p ^ m → b < p ^ m → (∀ i, i < m → a / p ^ i % p = b / p ^ i % p) → a = b
  | 0, a, b, ha, hb, _ => by rw [Nat.pow_zero] at ha hb; omega
  | m + 1, a, b, ha, hb, h => by
    have h0 := h 0 (by omega)
    rw [Nat.pow_zero, Nat.div_one, Nat.div_one] at h0
    rw [Nat.pow_succ] at ha hb
    have := digits_inj p hp m (a / p) (b / p) ((Nat.div_lt_iff_lt_mul hp).2 ha) ((Nat.div_lt_iff_lt_mul hp).2 hb) (fun i hi => by
      have := h (i + 1) (by omega)
      rwa [Nat.pow_succ, Nat.mul_comm (p ^ i), ← Nat.div_div_eq_div_mul, ← Nat.div_div_eq_div_mul] at this)
    rw [← Nat.div_add_mod a p, ← Nat.div_add_mod b p, this, h0]

section quo
variable {F : Type} [CR F]
def qrel (g : Poly F) (a b : Poly F) : Prop := Dv g (a + -b)
theorem qrel_eqv (g : Poly F) : Equivalence (qrel g) where
  refl a := ⟨0, by rw [CR.add_neg, CR.mul_zero]⟩
  symm {a b} h := by
    have := Dv.neg h
    have e : -(a + -b) = b + -a := by rw [CR.neg_add_eq, CR.neg_neg, CR.add_comm]
    rwa [e] at this
  trans {a b c} h k := by
    have := Dv.add h k
    have e : a + -b + (b + -c) = a + -c := by
      have : a + -b + (b + -c) = a + (-b + b) + -c := by ac_rfl
      rw [this, CR.neg_add, CR.add_zero]
    rwa [e] at this
def qset (g : Poly F) : Setoid (Poly F) := ⟨qrel g, qrel_eqv g⟩
/-- remainders by g -/
def Qu (g : Poly F) : Type := Quotient (qset g)
variable {g : Poly F}
def mk (g : Poly F) (a : Poly F) : Qu g := Quotient.mk (qset g) a
theorem mk_eq {a b : Poly F} : mk g a = mk g b ↔ Dv g (a + -b) := ⟨fun h => Quotient.exact h, fun h => Quotient.sound (s := qset g) h⟩
theorem mk_ind {P : Qu g → Prop} (h : ∀ a, P (mk g a)) (x : Qu g) : P x := Quotient.ind (motive := P) h x
theorem q_add {a b c d : Poly F} (h : qrel g a b) (k : qrel g c d) : qrel g (a + c) (b + d) := by
  have := Dv.add h k
  have e : a + -b + (c + -d) = a + c + -(b + d) := by rw [CR.neg_add_eq]; ac_rfl
  rwa [e] at this
theorem q_mul {a b c d : Poly F} (h : qrel g a b) (k : qrel g c d) : qrel g (a * c) (b * d) := by
  have := Dv.add (Dv.mul_right h c) (Dv.mul_left k b)
  have e : (a + -b) * c + b * (c + -d) = a * c + -(b * d) := by
    rw [CR.add_mul, CR.mul_add, CR.neg_mul, CR.mul_neg]
    have : a * c + -(b * c) + (b * c + -(b * d)) = a * c + (-(b * c) + b * c) + -(b * d) := by ac_rfl
    rw [this, CR.neg_add, CR.add_zero]
  rwa [e] at this
theorem q_neg {a b : Poly F} (h : qrel g a b) : qrel g (-a) (-b) := by
  have := Dv.neg h
  rwa [CR.neg_add_eq] at this
instance instCRQu : CR (Qu g) where
  add := Quotient.lift₂ (fun a b => mk g (a + b)) fun a b c d h k => Quotient.sound (s := qset g) (q_add h k)
  mul := Quotient.lift₂ (fun a b => mk g (a * b)) fun a b c d h k => Quotient.sound (s := qset g) (q_mul h k)
  neg := Quotient.lift (fun a => mk g (-a)) fun a b h => Quotient.sound (s := qset g) (q_neg h)
  zero := mk g 0
  one := mk g 1
  add_assoc a b c := by
    revert a b c
    refine mk_ind fun a => ?_; refine mk_ind fun b => ?_; refine mk_ind fun c => ?_
    exact congrArg (mk g) (CR.add_assoc a b c)
  add_comm a b := by
    revert a b
    refine mk_ind fun a => ?_; refine mk_ind fun b => ?_
    exact congrArg (mk g) (CR.add_comm a b)
  zero_add a := by
    revert a
    refine mk_ind fun a => ?_
    exact congrArg (mk g) (CR.zero_add a)
  neg_add a := by
    revert a
    refine mk_ind fun a => ?_
    exact congrArg (mk g) (CR.neg_add a)
  mul_assoc a b c := by
    revert a b c
    refine mk_ind fun a => ?_; refine mk_ind fun b => ?_; refine mk_ind fun c => ?_
    exact congrArg (mk g) (CR.mul_assoc a b c)
  mul_comm a b := by
    revert a b
    refine mk_ind fun a => ?_; refine mk_ind fun b => ?_
    exact congrArg (mk g) (CR.mul_comm a b)
  one_mul a := by
    revert a
    refine mk_ind fun a => ?_
    exact congrArg (mk g) (CR.one_mul a)
  mul_add a b c := by
    revert a b c
    refine mk_ind fun a => ?_; refine mk_ind fun b => ?_; refine mk_ind fun c => ?_
    exact congrArg (mk g) (CR.mul_add a b c)
theorem mk_add (a b : Poly F) : mk g (a + b) = mk g a + mk g b := rfl
theorem mk_mul (a b : Poly F) : mk g (a * b) = mk g a * mk g b := rfl
theorem mk_neg (a : Poly F) : mk g (-a) = -mk g a := rfl
theorem mk_zero : mk g (0 : Poly F) = 0 := rfl
theorem mk_one : mk g (1 : Poly F) = 1 := rfl
theorem mk_pw (a : Poly F) : ∀ n, mk g (CR.pw a n) = CR.pw (mk g a) n
  | 0 => rfl
  | n + 1 => by rw [CR.pw_succ, CR.pw_succ, mk_mul, mk_pw a n]
theorem mk_eq_zero {a : Poly F} : mk g a = 0 ↔ Dv g a := by
  rw [← mk_zero, mk_eq, CR.neg_zero, CR.add_zero]
theorem qu_fd [IsFd F] (h : Irr g) : IsFd (Qu g) where
  ex_inv a := by
    revert a
    refine mk_ind fun a => ?_
    intro ha
    obtain ⟨u, v, e⟩ := h.cop (f := a) (fun hd => ha (mk_eq_zero.2 hd))
    refine ⟨mk g u, ?_⟩
    rw [← mk_mul, ← mk_one, mk_eq]
    refine ⟨-v, ?_⟩
    rw [e, CR.neg_add_eq, ← CR.add_assoc, CR.mul_comm a u, CR.add_neg, CR.zero_add, CR.mul_neg, CR.mul_comm]
  one_ne e := by
    have h1 := mk_eq_zero.1 e
    have := h1.len_le one_ne
    rw [len_one] at this
    have := h.1
    omega
end quo

section frob
variable {p : Nat} [NeZero p]
theorem natp_zero : (CR.nat p : Poly (Fp p)) = 0 := by
  have key : ∀ n, (CR.nat n : Poly (Fp p)) = C (CR.nat n) := by
    intro n
    induction n with
    | zero => rw [CR.nat_zero, CR.nat_zero, C_zero]
    | succ n ih =>
      show CR.nat n + 1 = C (CR.nat n + 1)
      rw [ih, C_add, C_one]
  rw [key, Fp.nat_eq, Fp.of_self, C_zero]
theorem frob_addk (hp : IsPr p) (F G : Poly (Fp p)) : ∀ k, CR.pw (F + G) (p ^ k) = CR.pw F (p ^ k) + CR.pw G (p ^ k)
  | 0 => by rw [Nat.pow_zero, CR.pw_one, CR.pw_one, CR.pw_one]
  | k + 1 => by
    rw [Nat.pow_succ, CR.pw_mul, CR.pw_mul, CR.pw_mul, frob_addk hp F G k]
    obtain ⟨c, hc⟩ := CR.frob_add hp (CR.pw F (p ^ k)) (CR.pw G (p ^ k))
    rw [hc, natp_zero, CR.zero_mul, CR.add_zero]
theorem frob_C (hp : IsPr p) (a : Fp p) : ∀ k, CR.pw (C a) (p ^ k) = C a
  | 0 => by rw [Nat.pow_zero, CR.pw_one]
  | k + 1 => by rw [Nat.pow_succ, CR.pw_mul, frob_C hp a k, pw_C, Fp.fermat hp]
/-- if x to the power p^k is x, modulo g, all are -/
theorem frob_all (hp : IsPr p) (g : Poly (Fp p)) (k : Nat) (h : Dv g (CR.pw (X 1) (p ^ k) + -X 1)) (f : Poly (Fp p)) : CR.pw (mk g f) (p ^ k) = mk g f := by
  have hx : CR.pw (mk g (X 1)) (p ^ k) = mk g (X 1) := by rw [← mk_pw]; exact mk_eq.2 h
  refine Poly.ind (P := fun f => CR.pw (mk g f) (p ^ k) = mk g f) ?_ ?_ f
  · rw [← mk_pw, CR.zero_pw _ (Nat.pow_pos (by have := hp.1; omega))]
  · intro f a n hf _
    have hX : (X n : Poly (Fp p)) = CR.pw (X 1) n := by rw [pw_X, Nat.one_mul]
    rw [← mk_pw, frob_addk hp, mk_add, mk_pw, hf, CR.mul_pw, frob_C hp, mk_add, mk_mul, mk_mul, hX, mk_pw, mk_pw, ← CR.pw_mul, Nat.mul_comm, CR.pw_mul, hx]
/-- the list of all remainders -/
def els (g : Poly (Fp p)) (m : Nat) : List (Qu g) := (List.range (p ^ m)).map fun n => mk g (pol p ((List.range m).map fun i => n / p ^ i % p))
theorem dig_c (m n i : Nat) (hi : i < m) : (pol p ((List.range m).map fun i => n / p ^ i % p)).c i = Fp.of (n / p ^ i % p) := by
  rw [pol_c, List.getD_eq_getElem?_getD, List.getElem?_map, List.getElem?_range hi]; rfl
theorem dig_bd (m n : Nat) : (pol p ((List.range m).map fun i => n / p ^ i % p)).bd m := fun i hi => by
  show (pol p _).c i = 0
  rw [pol_c, List.getD_eq_getElem?_getD, List.getElem?_eq_none (by rw [List.length_map, List.length_range]; exact hi)]; rfl
theorem els_len (g : Poly (Fp p)) (m : Nat) : (els g m).length = p ^ m := by rw [els, List.length_map, List.length_range]
theorem els_nodup (hp : IsPr p) (g : Poly (Fp p)) (m : Nat) (hm : g.len = m + 1) : (els g m).Nodup := by
  have hp0 : 0 < p := by have := hp.1; omega
  have := Fp.isFd hp
  refine nodup_map _ _ List.nodup_range fun a b ha hb e => ?_
  have hd := mk_eq.1 e
  have hz : pol p ((List.range m).map fun i => a / p ^ i % p) + -pol p ((List.range m).map fun i => b / p ^ i % p) = 0 := Classical.byContradiction fun hne => by
    have h1 := hd.len_le hne
    have h2 := len_le ((dig_bd (p := p) m a).add (dig_bd (p := p) m b).neg)
    omega
  have he := CR.add_neg_eq_zero hz
  refine digits_inj p hp0 m a b (List.mem_range.1 ha) (List.mem_range.1 hb) fun i hi => ?_
  have h3 := congrArg (fun f => f.c i) he
  simp only [dig_c _ _ _ hi] at h3
  exact Fp.of_inj (Nat.mod_lt _ hp0) (Nat.mod_lt _ hp0) h3
theorem els_all (hp : IsPr p) (g : Poly (Fp p)) (m : Nat) (hm : g.len = m + 1) (x : Qu g) : x ∈ els g m := by
  have hp0 : 0 < p := by have := hp.1; omega
  have := Fp.isFd hp
  revert x
  refine mk_ind fun f => ?_
  have hg : g ≠ 0 := fun e => by rw [e, len_zero] at hm; omega
  obtain ⟨q, r, hq, hr⟩ := Poly.div f g hg
  obtain ⟨n, hn, hd⟩ := digits_ex p hp0 (fun i => (r.c i).v) (fun i => (r.c i).h) m
  refine List.mem_map.2 ⟨n, List.mem_range.2 hn, mk_eq.2 ?_⟩
  have e : pol p ((List.range m).map fun i => n / p ^ i % p) = r := Poly.ext fun i => by
    by_cases hi : i < m
    · rw [dig_c _ _ _ hi, hd i hi, Fp.of_v]
    · rw [show (pol p _).c i = 0 from dig_bd m n i (by omega), show r.c i = 0 from bd_of_len (n := m) (by omega) i (by omega)]
  rw [e, hq]
  refine ⟨-q, ?_⟩
  rw [CR.neg_add_eq, CR.add_comm, CR.add_assoc, CR.neg_add, CR.add_zero, CR.mul_neg, CR.mul_comm]
/-- an irreducible polynomial of degree m divides x to the power p^m less x -/
theorem irr_pow (hp : IsPr p) {g : Poly (Fp p)} (hg : Irr g) {m : Nat} (hm : g.len = m + 1) (x : Qu g) : CR.pw x (p ^ m) = x := by
  have := Fp.isFd hp
  have := qu_fd hg
  have h := fin_pow (els g m) (els_nodup hp g m hm) (els_all hp g m hm) x
  rwa [els_len] at h
theorem irr_frob (hp : IsPr p) {g : Poly (Fp p)} (hg : Irr g) {m : Nat} (hm : g.len = m + 1) : Dv g (CR.pw (X 1) (p ^ m) + -X 1) := by
  have := irr_pow hp hg hm (mk g (X 1))
  rw [← mk_pw] at this
  exact mk_eq.1 this
theorem pow_mod {R : Type} [CR R] (p m : Nat) (h1 : ∀ x : R, CR.pw x (p ^ m) = x) : ∀ d, (∀ x : R, CR.pw x (p ^ d) = x) → ∀ k, ∀ x : R, k * m ≤ d → CR.pw x (p ^ (d - k * m)) = x
  | d, h, 0, x, _ => by rw [Nat.zero_mul, Nat.sub_zero]; exact h x
  | d, h, k + 1, x, hk => by
    rw [Nat.succ_mul] at hk
    have h2 := pow_mod p m h1 d h k x (by omega)
    have e : d - k * m = m + (d - (k + 1) * m) := by rw [Nat.succ_mul]; omega
    rw [e, Nat.pow_add, CR.pw_mul, h1] at h2
    exact h2
theorem pow_up {R : Type} [CR R] (p m : Nat) (x : R) (h1 : CR.pw x (p ^ m) = x) : ∀ k, CR.pw x (p ^ (m * k)) = x
  | 0 => by rw [Nat.mul_zero, Nat.pow_zero, CR.pw_one]
  | k + 1 => by rw [Nat.mul_succ, Nat.pow_add, CR.pw_mul, pow_up p m x h1 k, h1]
theorem irr_up (hp : IsPr p) {g : Poly (Fp p)} (hg : Irr g) {m : Nat} (hm : g.len = m + 1) {d : Nat} (hd : m ∣ d) : Dv g (CR.pw (X 1) (p ^ d) + -X 1) := by
  obtain ⟨k, rfl⟩ := hd
  have := pow_up p m (mk g (X 1)) (irr_pow hp hg hm _) k
  rw [← mk_pw] at this
  exact mk_eq.1 this
/-- the degree of an irreducible divisor of x to the power p^d less x divides d -/
theorem irr_dvd (hp : IsPr p) {g : Poly (Fp p)} (hg : Irr g) {m : Nat} (hm : g.len = m + 1) {d : Nat} (hd : Dv g (CR.pw (X 1) (p ^ d) + -X 1)) : m ∣ d := by
  have hF := Fp.isFd hp
  have hK := qu_fd hg
  have h2 := hp.1
  have hm1 : 0 < m := by have := hg.1; omega
  have ha : ∀ x : Qu g, CR.pw x (p ^ d) = x := mk_ind fun f => frob_all hp g d hd f
  have hb : ∀ x : Qu g, CR.pw x (p ^ (d % m)) = x := fun x => by
    have := pow_mod p m (irr_pow hp hg hm) d ha (d / m) x (by rw [Nat.mul_comm]; exact Nat.mul_div_le d m)
    have e : d - d / m * m = d % m := by have := Nat.div_add_mod d m; rw [Nat.mul_comm]; omega
    rwa [e] at this
  by_cases h0 : d % m = 0
  · exact Nat.dvd_of_mod_eq_zero h0
  exfalso
  have hlt := Nat.mod_lt d hm1
  have hpow : p ^ (d % m) < p ^ m := Nat.pow_lt_pow_right (by omega) hlt
  have hbig : 1 < p ^ (d % m) := Nat.one_lt_pow h0 (by omega)
  let h : Poly (Qu g) := X (p ^ (d % m)) + -X 1
  have hl : h.len = p ^ (d % m) + 1 := len_eq ((bd_X _).add (((bd_X 1).mono (by omega)).neg)) (Or.inr (by
    show (X (p ^ (d % m)) + -X 1 : Poly (Qu g)).c _ ≠ 0
    rw [c_add, c_neg, c_X, c_X, if_pos (by omega), if_neg (by omega), CR.neg_zero, CR.add_zero]; exact IsFd.one_ne))
  have hne : h ≠ 0 := fun e => by rw [e, len_zero] at hl; omega
  have := roots_len (els g m) h hne (els_nodup hp g m hm) fun x _ => by
    show ev x (X (p ^ (d % m)) + -X 1) = 0
    rw [ev_add, ev_neg, ev_X, ev_X, CR.pw_one, hb, CR.add_neg]
  rw [els_len, hl] at this
  omega
end frob
end Alg
end
section
open Alg
namespace Alg
open Poly
theorem pr_ex : ∀ n, 2 ≤ n → ∃ q, IsPr q ∧ q ∣ n := by
  intro n
  induction n using Nat.strongRecOn with
  | ind n ih =>
    intro hn
    by_cases h : IsPr n
    · exact ⟨n, h, Nat.dvd_refl n⟩
    have : ∃ d, d ∣ n ∧ d ≠ 1 ∧ d ≠ n := Classical.byContradiction fun hc => h ⟨hn, fun d hd => by
      by_cases h1 : d = 1
      · exact Or.inl h1
      · exact Or.inr (Classical.byContradiction fun h2 => hc ⟨d, hd, h1, h2⟩)⟩
    obtain ⟨d, hd, h1, h2⟩ := this
    have h3 := Nat.le_of_dvd (by omega) hd
    have h4 : d ≠ 0 := fun e => by rw [e] at hd; have := Nat.eq_zero_of_zero_dvd hd; omega
    obtain ⟨q, hq, hqd⟩ := ih d (by omega) (by omega)
    exact ⟨q, hq, Nat.dvd_trans hqd hd⟩
section
variable {p : Nat} [NeZero p]
def xpx (p : Nat) [NeZero p] (d : Nat) : Poly (Fp p) := CR.pw (X 1) (p ^ d) + -X 1
theorem irr_one (hp : IsPr p) {g f : Poly (Fp p)} (hg : Irr g) (h1 : Dv g f) {h : Poly (Fp p)} (h2 : Dv g h) (hc : Cop h f) : False := by
  have := Fp.isFd hp
  have h3 := cop_len hc h2 h1
  have := hg.1
  omega
theorem dv_len_eq (hp : IsPr p) {d f : Poly (Fp p)} (f0 : f ≠ 0) (hd : Dv d f) (hl : d.len = f.len) : Dv f d := by
  have := Fp.isFd hp
  obtain ⟨q, hq⟩ := hd
  have d0 : d ≠ 0 := fun e => f0 (by rw [hq, e, CR.zero_mul])
  have q0 : q ≠ 0 := fun e => f0 (by rw [hq, e, CR.mul_zero])
  have h4 := len_mul d0 q0
  rw [← hq] at h4
  have h5 := len_pos q0
  have h6 := len_pos d0
  have hq1 : q.len = 1 := by omega
  have h0 : q = C (q.c 0) := len_le_one (by omega)
  have hc : q.c 0 ≠ 0 := fun e => by rw [h0, e, C_zero, len_zero] at hq1; omega
  rw [hq, h0, CR.mul_comm]
  exact dv_C_mul hc d
theorem rabin_irr (hp : IsPr p) {f : Poly (Fp p)} {n : Nat} (hf : f.len = n + 1) (hn : 1 ≤ n) (h1 : Dv f (xpx p n)) (h2 : ∀ q, IsPr q → q ∣ n → Cop (xpx p (n / q)) f) : Irr f := by
  have hF := Fp.isFd hp
  have f0 : f ≠ 0 := fun e => by rw [e, len_zero] at hf; omega
  obtain ⟨g, hg, hgf⟩ := irr_ex f.len f (Nat.le_refl _) (by omega)
  have hgl := hg.1
  have hm : g.len = (g.len - 1) + 1 := by omega
  have hmn := irr_dvd hp hg hm (hgf.trans h1)
  by_cases e : g.len - 1 = n
  · have hff := dv_len_eq hp f0 hgf (by omega)
    refine ⟨by omega, fun d hd => ?_⟩
    rcases hg.2 d (hd.trans hff) with h | h
    · exact Or.inl h
    · exact Or.inr (hff.trans h)
  · exfalso
    obtain ⟨k, hk⟩ := hmn
    have hk0 : k ≠ 0 := fun e0 => by rw [e0, Nat.mul_zero] at hk; omega
    have hk1 : k ≠ 1 := fun e1 => by rw [e1, Nat.mul_one] at hk; omega
    obtain ⟨q, hq, j, hj⟩ := pr_ex k (by omega)
    have hq2 := hq.1
    have hdiv : n / q = (g.len - 1) * j := by
      rw [hk, hj, Nat.mul_left_comm, Nat.mul_div_cancel_left _ (by omega)]
    have hqn : q ∣ n := ⟨(g.len - 1) * j, by rw [hk, hj, Nat.mul_left_comm]⟩
    exact irr_one hp hg hgf (irr_up hp hg hm (d := n / q) ⟨j, hdiv⟩) (h2 q hq hqn)
theorem irr_rabin (hp : IsPr p) {f : Poly (Fp p)} (hi : Irr f) {n : Nat} (hf : f.len = n + 1) (hn : 1 ≤ n) : Dv f (xpx p n) ∧ ∀ q, IsPr q → q ∣ n → Cop (xpx p (n / q)) f := by
  have hF := Fp.isFd hp
  refine ⟨irr_frob hp hi hf, fun q hq hqn => hi.cop fun hd => ?_⟩
  have h := irr_dvd hp hi hf hd
  have hq2 := hq.1
  obtain ⟨k, hk⟩ := hqn
  have hk2 : n / q = k := by rw [hk, Nat.mul_div_cancel_left _ (by omega)]
  rw [hk2] at h
  have hk0 : 0 < k := Nat.pos_of_ne_zero fun e => by rw [e, Nat.mul_zero] at hk; omega
  have := Nat.le_of_dvd hk0 h
  have : 2 * k ≤ q * k := Nat.mul_le_mul_right k hq2
  omega
/-- no polynomial of degree 1 and more divides twice -/
def SqF (f : Poly (Fp p)) : Prop := f ≠ 0 ∧ ∀ g, Irr g → ¬ Dv (g * g) f
theorem sqf_of (hp : IsPr p) {f : Poly (Fp p)} (f0 : f ≠ 0) (hc : Cop f (D f)) : SqF f := by
  have hF := Fp.isFd hp
  refine ⟨f0, fun g hg hd => ?_⟩
  obtain ⟨q, hq⟩ := hd
  refine irr_one hp hg (f := D f) (h := f) ?_ ?_ hc
  · rw [hq, CR.mul_assoc, D_mul, D_mul]
    have : D g * (g * q) + g * (D g * q + g * D q) = g * (D g * q + (D g * q + g * D q)) := by
      rw [CR.mul_left_comm (D g), ← CR.mul_add]
    rw [this]; exact Dv.self_mul g _
  · rw [hq, CR.mul_assoc]; exact Dv.self_mul g _
theorem SqF.cop (hp : IsPr p) {a b : Poly (Fp p)} (h : SqF (a * b)) : Cop a b := by
  have hF := Fp.isFd hp
  obtain ⟨d, u, v, e, h1, h2⟩ := gcd_ex b.len a b (Nat.le_refl _)
  have d0 : d ≠ 0 := fun e0 => by
    rw [e0] at h1
    exact h.1 (by rw [Dv.of_zero h1, CR.zero_mul])
  have hd := len_pos d0
  by_cases h3 : d.len = 1
  · have h0 : d = C (d.c 0) := len_le_one (by omega)
    have hc : d.c 0 ≠ 0 := fun e => by rw [h0, e, C_zero, len_zero] at h3; omega
    obtain ⟨b', hb⟩ := IsFd.ex_inv _ hc
    refine ⟨C b' * u, C b' * v, ?_⟩
    have : C b' * d = 1 := by rw [h0, ← C_mul, CR.mul_comm, hb, C_one]
    rw [CR.mul_assoc, CR.mul_assoc, ← CR.mul_add, ← e, this]
  · obtain ⟨g, hg, hgd⟩ := irr_ex d.len d (Nat.le_refl _) (by omega)
    obtain ⟨x, hx⟩ := hgd.trans h1
    obtain ⟨y, hy⟩ := hgd.trans h2
    exact absurd ⟨x * y, by rw [hx, hy]; ac_rfl⟩ (h.2 g hg)
theorem SqF.of_dv {a f : Poly (Fp p)} (h : SqF f) (hd : Dv a f) : SqF a :=
  ⟨fun e => h.1 (Dv.of_zero (e ▸ hd)), fun g hg hgd => h.2 g hg (hgd.trans hd)⟩
/-- a polynomial all of whose irreducible divisors are of degree m is of a degree that m divides -/
theorem deg_mult (hp : IsPr p) (m : Nat) : ∀ n (g : Poly (Fp p)), g.len ≤ n → g ≠ 0 → (∀ h, Irr h → Dv h g → h.len = m + 1) → ∃ k, g.len = m * k + 1
  | 0, g, hn, g0, _ => absurd (len_pos g0) (by omega)
  | n + 1, g, hn, g0, h => by
    have hF := Fp.isFd hp
    have hl := len_pos g0
    by_cases h1 : g.len = 1
    · exact ⟨0, by rw [h1, Nat.mul_zero]⟩
    obtain ⟨d, hd, x, hx⟩ := irr_ex g.len g (Nat.le_refl _) (by omega)
    have x0 : x ≠ 0 := fun e => g0 (by rw [hx, e, CR.mul_zero])
    have h2 := len_mul hd.ne x0
    rw [← hx] at h2
    have h3 := h d hd ⟨x, hx⟩
    have h4 := len_pos x0
    have h5 := hd.1
    obtain ⟨k, hk⟩ := deg_mult hp m n x (by omega) x0 fun e he hex => h e he (by rw [hx]; exact hex.mul_left d)
    exact ⟨k + 1, by rw [Nat.mul_succ]; omega⟩
/-- one round: G is a gcd of the rest and x^(p^(i+1)) - x, the new rest is without it -/
theorem part_step (hp : IsPr p) {f r G r' : Poly (Fp p)} (hf : SqF f) {i : Nat} (hr : Dv r f) (hi : ∀ h, Irr h → Dv h r → i + 1 < h.len)
    (hG : Dv G r) (hG2 : Dv G (xpx p (i + 1))) (hG3 : ∀ e, Dv e r → Dv e (xpx p (i + 1)) → Dv e G) (hr' : r = r' * G) :
    (∀ h, Irr h → Dv h r' → i + 2 < h.len) ∧ (∃ k, G.len = (i + 1) * k + 1) := by
  have hF := Fp.isFd hp
  have G0 : G ≠ 0 := fun e => hf.1 (Dv.of_zero (e ▸ hG.trans hr))
  refine ⟨fun h hh hd => ?_, ?_⟩
  · have h1 := hi h hh (by rw [hr']; exact hd.mul_right G)
    refine Nat.lt_of_le_of_ne h1 fun e => ?_
    have h2 := hG3 h (by rw [hr']; exact hd.mul_right G) (irr_frob hp hh e.symm)
    refine hf.2 h hh (Dv.trans ?_ hr)
    obtain ⟨a, ha⟩ := hd
    obtain ⟨b, hb⟩ := h2
    exact ⟨a * b, by rw [hr', ha, hb]; ac_rfl⟩
  · refine deg_mult hp (i + 1) G.len G (Nat.le_refl _) G0 fun h hh hd => ?_
    have h1 := hi h hh (hd.trans hG)
    have h2 := irr_dvd hp hh (m := h.len - 1) (by omega) (hd.trans hG2)
    have := Nat.le_of_dvd (by omega) h2
    omega
end
end Alg
end
section
open Alg
namespace Alg
open Classical in
/-- the primes that divide n, rising -/
noncomputable def prl (n : Nat) : List Nat := (List.range (n + 1)).filter fun q => decide (IsPr q ∧ q ∣ n)
theorem mem_prl {n : Nat} (h : 0 < n) (q : Nat) : q ∈ prl n ↔ IsPr q ∧ q ∣ n := by
  classical
  unfold prl
  rw [List.mem_filter, List.mem_range, decide_eq_true_eq]
  exact ⟨fun h => h.2, fun h1 => ⟨Nat.lt_succ_of_le (Nat.le_of_dvd h h1.2), h1⟩⟩
theorem prl_up (n : Nat) : (prl n).Pairwise (· < ·) := by
  unfold prl
  exact List.Pairwise.filter _ List.pairwise_lt_range
theorem up_eq : ∀ (l m : List Nat), l.Pairwise (· < ·) → m.Pairwise (· < ·) → (∀ x, x ∈ l ↔ x ∈ m) → l = m
  | [], [], _, _, _ => rfl
  | [], b :: m, _, _, h => absurd ((h b).2 (List.mem_cons_self ..)) (List.not_mem_nil)
  | a :: l, [], _, _, h => absurd ((h a).1 (List.mem_cons_self ..)) (List.not_mem_nil)
  | a :: l, b :: m, hl, hm, h => by
    rw [List.pairwise_cons] at hl hm
    have e : a = b := by
      rcases List.mem_cons.1 ((h a).1 (List.mem_cons_self ..)) with h1 | h1
      · exact h1
      · rcases List.mem_cons.1 ((h b).2 (List.mem_cons_self ..)) with h2 | h2
        · exact h2.symm
        · have := hm.1 a h1; have := hl.1 b h2; omega
    subst e
    rw [up_eq l m hl.2 hm.2 fun x => ⟨fun hx => ?_, fun hx => ?_⟩]
    · rcases List.mem_cons.1 ((h x).1 (List.mem_cons_of_mem _ hx)) with h1 | h1
      · have := hl.1 x hx; omega
      · exact h1
    · rcases List.mem_cons.1 ((h x).2 (List.mem_cons_of_mem _ hx)) with h1 | h1
      · have := hm.1 x hx; omega
      · exact h1
theorem prl_of {n : Nat} (h : 0 < n) {l : List Nat} (hu : l.Pairwise (· < ·)) (hm : ∀ y, y ∈ l ↔ IsPr y ∧ y ∣ n) : l = prl n :=
  up_eq l _ hu (prl_up n) fun x => (hm x).trans (mem_prl h x).symm
theorem nth_memL {l : List Nat} {i : Nat} (h : i < l.length) : nth l i ∈ l := getD_mem h
end Alg
end
section
open Alg
namespace Alg
theorem prl_len (n : Nat) : (prl n).length ≤ n := by
  rcases Nat.eq_zero_or_pos n with rfl | h
  · have : prl 0 = [] := by
      unfold prl
      rw [List.filter_eq_nil_iff]
      intro x hx
      have : x = 0 := by simpa using hx
      subst this
      simp; intro h; have := h.1; omega
    rw [this]; exact Nat.le_refl _
  have h2 := nodup_le (prl n) (List.range' 1 n) ((prl_up n).imp fun h => Nat.ne_of_lt h) fun x hx => by
    have h1 := (mem_prl h x).1 hx
    have := Nat.le_of_dvd h h1.2
    have := h1.1.1
    rw [List.mem_range'_1]; omega
  rwa [List.length_range'] at h2
/-- where a paper looks -/
noncomputable def stepsL (n : Nat) : List Nat := (prl n).map (n / ·)
theorem take_map_succ (f : Nat → Nat) (l : List Nat) (j : Nat) (h : j < l.length) : (l.take (j + 1)).map f = (l.take j).map f ++ [f (nth l j)] := by
  rw [List.take_add_one, List.getElem?_eq_getElem h, List.map_append]
  simp [nth, List.getD_eq_getElem?_getD, h]
/-- the primes below P that divide N are in l, L is what is left of N without them -/
structure PrI (N L P : Nat) (l : List Nat) : Prop where
  L0 : 0 < L
  dv : L ∣ N
  none : ∀ c, 2 ≤ c → c < P → ¬ c ∣ L
  mem : ∀ y, y ∈ l ↔ IsPr y ∧ y ∣ N ∧ ¬ y ∣ L
  lt : ∀ y, y ∈ l → y < P
  up : l.Pairwise (· < ·)
/-- P is a prime divisor, being divided out of X -/
structure PrJ (N X P : Nat) (l : List Nat) : Prop where
  X0 : 0 < X
  pr : IsPr P
  dvP : P ∣ N
  dv : X ∣ N
  none : ∀ c, 2 ≤ c → c < P → ¬ c ∣ X
  mem : ∀ y, y ≠ P → (y ∈ l ↔ IsPr y ∧ y ∣ N ∧ ¬ y ∣ X)
  lt : ∀ y, y ∈ l → y < P
  up : l.Pairwise (· < ·)
theorem PrI.start {N : Nat} (h : 0 < N) : PrI N N 2 [] :=
  ⟨h, Nat.dvd_refl N, fun c h1 h2 => absurd h2 (by omega), fun y => ⟨fun h => absurd h (List.not_mem_nil), fun h => absurd h.2.1 h.2.2⟩, fun y h => absurd h (List.not_mem_nil), List.Pairwise.nil⟩
theorem PrI.take {N L P : Nat} {l : List Nat} (h : PrI N L P l) (hP2 : 2 ≤ P) (hd : L % P = 0) : PrJ N L P l := by
  have hdv := Nat.dvd_of_mod_eq_zero hd
  refine ⟨h.L0, ⟨hP2, fun d hd2 => ?_⟩, Nat.dvd_trans hdv h.dv, h.dv, h.none, fun y _ => h.mem y, h.lt, h.up⟩
  have h1 := Nat.le_of_dvd (by omega) hd2
  have h2 : d ≠ 0 := fun e => by rw [e] at hd2; have := Nat.eq_zero_of_zero_dvd hd2; omega
  by_cases h3 : d = 1
  · exact Or.inl h3
  by_cases h4 : d = P
  · exact Or.inr h4
  exact absurd (Nat.dvd_trans hd2 hdv) (h.none d (by omega) (by omega))
theorem PrJ.cut {N X P Y : Nat} {l : List Nat} (h : PrJ N X P l) (e : X = P * Y) : PrJ N Y P l := by
  have hY : Y ∣ X := ⟨P, by rw [e, Nat.mul_comm]⟩
  have hY0 : 0 < Y := Nat.pos_of_ne_zero fun e0 => by have := h.X0; rw [e, e0, Nat.mul_zero] at this; omega
  refine ⟨hY0, h.pr, h.dvP, Nat.dvd_trans hY h.dv, fun c h1 h2 h3 => h.none c h1 h2 (Nat.dvd_trans h3 hY), fun y hy => ?_, h.lt, h.up⟩
  rw [h.mem y hy]
  constructor
  · rintro ⟨a, b, c⟩; exact ⟨a, b, fun h3 => c (Nat.dvd_trans h3 hY)⟩
  · rintro ⟨a, b, c⟩
    refine ⟨a, b, fun h3 => ?_⟩
    rw [e] at h3
    rcases a.dvd_mul h3 with h4 | h4
    · rcases h.pr.2 y h4 with h5 | h5
      · have := a.1; omega
      · exact hy h5
    · exact c h4
theorem PrJ.next {N X P : Nat} {l : List Nat} (h : PrJ N X P l) (hd : ¬ X % P = 0) : PrI N X (P + 1) (l ++ [P]) := by
  have hnd : ¬ P ∣ X := fun hc => hd (Nat.mod_eq_zero_of_dvd hc)
  refine ⟨h.X0, h.dv, fun c h1 h2 => ?_, fun y => ?_, fun y hy => ?_, ?_⟩
  · rcases Nat.lt_or_ge c P with h3 | h3
    · exact h.none c h1 h3
    · have : c = P := by omega
      rw [this]; exact hnd
  · rw [List.mem_append, List.mem_singleton]
    by_cases hy : y = P
    · subst hy
      exact ⟨fun _ => ⟨h.pr, h.dvP, hnd⟩, fun _ => Or.inr rfl⟩
    · rw [h.mem y hy]
      exact ⟨fun hh => hh.resolve_right hy, fun hh => Or.inl hh⟩
  · rcases List.mem_append.1 hy with h1 | h1
    · have := h.lt y h1; omega
    · rw [List.mem_singleton] at h1; omega
  · rw [List.pairwise_append]
    refine ⟨h.up, List.pairwise_singleton _ _, fun a ha b hb => ?_⟩
    rw [List.mem_singleton] at hb
    rw [hb]; exact h.lt a ha
theorem PrI.skip {N L P : Nat} {l : List Nat} (h : PrI N L P l) (hd : ¬ L % P = 0) : PrI N L (P + 1) l := by
  have hnd : ¬ P ∣ L := fun hc => hd (Nat.mod_eq_zero_of_dvd hc)
  refine ⟨h.L0, h.dv, fun c h1 h2 => ?_, h.mem, fun y hy => by have := h.lt y hy; omega, h.up⟩
  rcases Nat.lt_or_ge c P with h3 | h3
  · exact h.none c h1 h3
  · have : c = P := by omega
    rw [this]; exact hnd
theorem PrI.done {N L P : Nat} {l : List Nat} (h : PrI N L P l) (hN : 0 < N) (hP : ¬ P ≤ L) : l = prl N := by
  have hL1 : L = 1 := by
    rcases Nat.lt_or_ge 1 L with h1 | h1
    · exact absurd (Nat.dvd_refl L) (h.none L h1 (by omega))
    · have := h.L0; omega
  refine prl_of hN h.up fun y => ?_
  rw [h.mem y, hL1]
  refine ⟨fun hh => ⟨hh.1, hh.2.1⟩, fun hh => ⟨hh.1, hh.2, fun hd => ?_⟩⟩
  have := Nat.le_of_dvd (by omega) hd
  have := hh.1.1
  omega
end Alg
end
