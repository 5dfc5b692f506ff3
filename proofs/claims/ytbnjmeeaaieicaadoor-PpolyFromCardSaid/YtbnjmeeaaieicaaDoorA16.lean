/- Powers modulo a polynomial: in plain words. -/
import Derived.Test.YtbnjmeeaaieicaaDoorA9
import Derived.Test.YtbnjmeeaaieicaaDoorE1
open Alg
namespace Alg
open Poly
/-- the remainder -/
def remL (p : Nat) (f m : List Nat) : List Nat := trim (divL p f m).2
/-- the power, modulo m, one factor behind the other -/
def powL (p : Nat) (f m : List Nat) : Nat → List Nat
  | 0 => remL p [1] m
  | n + 1 => remL p (mulL p (powL p f m n) (remL p f m)) m
/-- again and again the power by p -/
def frobL (p : Nat) (f m : List Nat) : Nat → List Nat
  | 0 => remL p f m
  | k + 1 => powL p (frobL p f m k) m p
/-- a number out of its limbs -/
def valN : List Nat → Nat
  | [] => 0
  | c :: l => c + 4294967296 * valN l
section
variable {p : Nat} [NeZero p]
/-- l is what is left of F, modulo m -/
structure Md (p : Nat) [NeZero p] (m : List Nat) (F : Poly (Fp p)) (l : List Nat) : Prop where
  canon : Canon p l
  len : l.length < m.length
  dv : Dv (pol p m) (F + -pol p l)
theorem Md.unique (hp : IsPr p) {m : List Nat} {F : Poly (Fp p)} {l l' : List Nat} (cm : Canon p m) (h : Md p m F l) (h' : Md p m F l') : l = l' := by
  haveI := Fp.isFd hp
  obtain ⟨q, hq⟩ := h.dv
  obtain ⟨q', hq'⟩ := h'.dv
  have e1 : F = q * pol p m + pol p l := by
    have : F + -pol p l + pol p l = pol p m * q + pol p l := by rw [hq]
    rw [CR.add_assoc, CR.neg_add, CR.add_zero] at this
    rw [this, CR.mul_comm]
  have e2 : F = q' * pol p m + pol p l' := by
    have : F + -pol p l' + pol p l' = pol p m * q' + pol p l' := by rw [hq']
    rw [CR.add_assoc, CR.neg_add, CR.add_zero] at this
    rw [this, CR.mul_comm]
  exact canon_ext h.canon h'.canon (div_unique e1 (by rw [pol_len h.canon, pol_len cm]; exact h.len) e2 (by rw [pol_len h'.canon, pol_len cm]; exact h'.len)).2
theorem remL_md (hp : IsPr p) {f m : List Nat} (cf : Canon p f) (cm : Canon p m) (h0 : m ≠ []) : Md p m (pol p f) (remL p f m) := by
  obtain ⟨d1, _, d3, d4⟩ := divL_ok hp f m cf cm h0
  refine ⟨d3, d4, ⟨pol p (trim (divL p f m).1), ?_⟩⟩
  rw [← d1, CR.add_assoc]
  show _ + (pol p (remL p f m) + -pol p (remL p f m)) = _
  rw [CR.add_neg, CR.add_zero, CR.mul_comm]
omit [NeZero p] in
theorem canon_one (hp : IsPr p) : Canon p [1] := (canon_iff (p := p) (l := [1]) (n := 1) rfl (by have := hp.1; omega)).2 ⟨fun i hi => by
  have : i = 0 := by omega
  subst this; exact hp.1, Or.inr (by decide)⟩
theorem Md.mul (hp : IsPr p) {m : List Nat} {F G : Poly (Fp p)} {l k : List Nat} (cm : Canon p m) (hl : Md p m F l) (hk : Md p m G k) : Md p m (F * G) (remL p (mulL p l k) m) := by
  have h0 : m ≠ [] := fun e => by have := hl.len; rw [e] at this; simp at this
  obtain ⟨m1, m2⟩ := mulL_ok (p := p) l k
  have h := remL_md hp m2 cm h0
  refine ⟨h.canon, h.len, ?_⟩
  rw [m1] at h
  have e : F * G + -pol p (remL p (mulL p l k) m) = (F * (G + -pol p k) + (F + -pol p l) * pol p k) + (pol p l * pol p k + -pol p (remL p (mulL p l k) m)) := by
    have e1 : F * (G + -pol p k) + (F + -pol p l) * pol p k = F * G + -(pol p l * pol p k) := by
      rw [CR.mul_add, CR.add_mul, CR.mul_neg, CR.neg_mul, CR.add_assoc, ← CR.add_assoc (-(F * pol p k)), CR.neg_add, CR.zero_add]
    rw [e1, CR.add_assoc, ← CR.add_assoc (-(pol p l * pol p k)), CR.neg_add, CR.zero_add]
  rw [e]
  exact Dv.add (Dv.add (hk.dv.mul_left F) (hl.dv.mul_right (pol p k))) h.dv
theorem powL_md (hp : IsPr p) {f m : List Nat} (cf : Canon p f) (cm : Canon p m) (h0 : m ≠ []) : ∀ n, Md p m (CR.pw (pol p f) n) (powL p f m n)
  | 0 => by
    have h := remL_md hp (canon_one hp) cm h0
    have e : pol p [1] = (1 : Poly (Fp p)) := Poly.ext fun i => by
      rw [c_one]
      show Fp.of (([1] : List Nat).getD i 0) = _
      match i with
      | 0 => rfl
      | i + 1 => rw [if_neg (by omega)]; rfl
    rw [e] at h
    exact h
  | n + 1 => by
    have h := Md.mul hp cm (powL_md hp cf cm h0 n) (remL_md hp cf cm h0)
    exact h
/-- the square and the like -/
theorem powL_add (hp : IsPr p) {f m : List Nat} (cf : Canon p f) (cm : Canon p m) (h0 : m ≠ []) (a b : Nat) : remL p (mulL p (powL p f m a) (powL p f m b)) m = powL p f m (a + b) := by
  have h := Md.mul hp cm (powL_md hp cf cm h0 a) (powL_md hp cf cm h0 b)
  rw [← CR.pw_add] at h
  exact Md.unique hp cm h (powL_md hp cf cm h0 (a + b))
theorem powL_one (hp : IsPr p) {f m : List Nat} (cf : Canon p f) (cm : Canon p m) (h0 : m ≠ []) : powL p f m 1 = remL p f m := by
  have h := powL_md hp cf cm h0 1
  rw [CR.pw_one] at h
  exact Md.unique hp cm h (remL_md hp cf cm h0)
theorem frobL_ok (hp : IsPr p) {f m : List Nat} (cf : Canon p f) (cm : Canon p m) (h0 : m ≠ []) : ∀ k, Md p m (CR.pw (pol p f) (p ^ k)) (frobL p f m k)
  | 0 => by
    rw [Nat.pow_zero, CR.pw_one]
    exact remL_md hp cf cm h0
  | k + 1 => by
    have ih := frobL_ok hp cf cm h0 k
    have h := powL_md hp ih.canon cm h0 p
    refine ⟨h.canon, h.len, ?_⟩
    have e : CR.pw (pol p f) (p ^ (k + 1)) = CR.pw (CR.pw (pol p f) (p ^ k)) p := by rw [← CR.pw_mul, Nat.pow_succ]
    -- what is left to the power of what is left
    have key : ∀ n, Dv (pol p m) (CR.pw (CR.pw (pol p f) (p ^ k)) n + -CR.pw (pol p (frobL p f m k)) n) := by
      intro n
      induction n with
      | zero => exact ⟨0, by rw [CR.pw_zero, CR.pw_zero, CR.add_neg, CR.mul_zero]⟩
      | succ n ihn =>
        rw [CR.pw_succ, CR.pw_succ]
        have idv := ih.dv
        generalize CR.pw (pol p f) (p ^ k) = A at *
        generalize pol p (frobL p f m k) = B at *
        have e1 : CR.pw A n * A + -(CR.pw B n * B) = (CR.pw A n + -CR.pw B n) * A + CR.pw B n * (A + -B) := by
          rw [CR.mul_add, CR.add_mul, CR.mul_neg, CR.neg_mul, CR.add_assoc, ← CR.add_assoc (-(CR.pw B n * A)), CR.neg_add, CR.zero_add]
        rw [e1]
        exact Dv.add (ihn.mul_right A) (idv.mul_left (CR.pw B n))
    rw [e]
    have e2 : CR.pw (CR.pw (pol p f) (p ^ k)) p + -pol p (frobL p f m (k + 1)) = (CR.pw (CR.pw (pol p f) (p ^ k)) p + -CR.pw (pol p (frobL p f m k)) p) + (CR.pw (pol p (frobL p f m k)) p + -pol p (powL p (frobL p f m k) m p)) := by
      rw [CR.add_assoc, ← CR.add_assoc (-CR.pw (pol p (frobL p f m k)) p), CR.neg_add, CR.zero_add]; rfl
    rw [e2]
    exact Dv.add (key p) h.dv
end
/-! ### limbs -/
theorem valN_take (l : List Nat) (h : ∀ i, nth l i < 4294967296) : ∀ i, nth l i = valN l / 4294967296 ^ i % 4294967296 := by
  induction l with
  | nil => intro i; simp [nth, valN]
  | cons c l ih =>
    intro i
    have hc : c < 4294967296 := h 0
    have hl : ∀ i, nth l i < 4294967296 := fun i => h (i + 1)
    match i with
    | 0 =>
      show c = (c + 4294967296 * valN l) / 1 % 4294967296
      rw [Nat.div_one, Nat.add_mul_mod_self_left, Nat.mod_eq_of_lt hc]
    | i + 1 =>
      show nth l i = (c + 4294967296 * valN l) / 4294967296 ^ (i + 1) % 4294967296
      rw [ih hl i, Nat.pow_succ, Nat.mul_comm (4294967296 ^ i), ← Nat.div_div_eq_div_mul, Nat.add_mul_div_left _ _ (by omega), Nat.div_eq_of_lt hc, Nat.zero_add]
theorem valN_lt (l : List Nat) (h : ∀ i, nth l i < 4294967296) : valN l < 4294967296 ^ l.length := by
  induction l with
  | nil => exact Nat.one_pos
  | cons c l ih =>
    have hc : c < 4294967296 := h 0
    have hl := ih (fun i => h (i + 1))
    show c + 4294967296 * valN l < 4294967296 ^ (l.length + 1)
    rw [Nat.pow_succ]
    have := Nat.mul_le_mul_left 4294967296 (Nat.succ_le_of_lt hl)
    have e : 4294967296 * Nat.succ (valN l) = 4294967296 * valN l + 4294967296 := by rw [Nat.mul_succ]
    omega
/-- the bit number k of a limb, as the number's -/
theorem limb_bit (l : List Nat) (h : ∀ i, nth l i < 4294967296) (i k : Nat) (hk : k < 32) : nth l i / 2 ^ k % 2 = valN l / 2 ^ (32 * i + k) % 2 := by
  rw [valN_take l h i]
  have e : 4294967296 ^ i = 2 ^ (32 * i) := by rw [Nat.pow_mul]
  rw [e, Nat.pow_add, ← Nat.div_div_eq_div_mul]
  generalize valN l / 2 ^ (32 * i) = x
  have e2 : (4294967296 : Nat) = 2 ^ k * 2 ^ (32 - k) := by rw [← Nat.pow_add, show k + (32 - k) = 32 by omega]
  rw [e2, Nat.mod_mul_right_div_self]
  have e3 : 2 ^ (32 - k) = 2 * 2 ^ (31 - k) := by rw [← Nat.pow_succ', show (31 - k).succ = 32 - k by omega]
  rw [e3, Nat.mod_mul_right_mod]
theorem low_step (N j : Nat) : N % 2 ^ (j + 1) = N % 2 ^ j + 2 ^ j * (N / 2 ^ j % 2) := by
  rw [Nat.pow_succ, Nat.mod_mul]
end Alg
