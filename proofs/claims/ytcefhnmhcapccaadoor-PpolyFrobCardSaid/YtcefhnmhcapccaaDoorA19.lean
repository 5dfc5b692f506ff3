/- The power by the prime: of a sum, of a product, again. -/
import Derived.Test.YtcefhnmhcapccaaDoorA16
open Alg
namespace Alg
open Poly
section
variable {p : Nat} [NeZero p]
theorem nat_p (f : Poly (Fp p)) : CR.nat p * f = 0 := by
  have h : (CR.nat p : Poly (Fp p)) = 0 := by
    have key : ∀ n, (CR.nat n : Poly (Fp p)) = C (CR.nat n) := by
      intro n
      induction n with
      | zero => rw [CR.nat_zero, CR.nat_zero, C_zero]
      | succ n ih =>
        show CR.nat n + 1 = C (CR.nat n + 1)
        rw [ih, C_add, C_one]
    rw [key, Fp.nat_eq, Fp.of_self, C_zero]
  rw [h, CR.zero_mul]
theorem pw_p_add (hp : IsPr p) (F G : Poly (Fp p)) : ∀ k, CR.pw (F + G) (p ^ k) = CR.pw F (p ^ k) + CR.pw G (p ^ k)
  | 0 => by rw [Nat.pow_zero, CR.pw_one, CR.pw_one, CR.pw_one]
  | k + 1 => by
    rw [Nat.pow_succ, CR.pw_mul, CR.pw_mul, CR.pw_mul, pw_p_add hp F G k]
    obtain ⟨c, hc⟩ := CR.frob_add hp (CR.pw F (p ^ k)) (CR.pw G (p ^ k))
    rw [hc, nat_p, CR.add_zero]
theorem addL_md {m : List Nat} {F G : Poly (Fp p)} {l k : List Nat} (hl : Md p m F l) (hk : Md p m G k) : Md p m (F + G) (addL p l k) := by
  have h1 := addL_ok' (p := p) l k
  refine ⟨h1.2, ?_, ?_⟩
  · have := addL_len p l k
    have a := hl.len
    have b := hk.len
    omega
  · rw [h1.1]
    have e : F + G + -(pol p l + pol p k) = (F + -pol p l) + (G + -pol p k) := by rw [CR.neg_add_eq]; ac_rfl
    rw [e]
    exact Dv.add hl.dv hk.dv
theorem frob_sum (hp : IsPr p) {f g m : List Nat} (cf : Canon p f) (cg : Canon p g) (cm : Canon p m) (h0 : m ≠ []) (k : Nat) : frobL p (addL p f g) m k = addL p (frobL p f m k) (frobL p g m k) := by
  have h1 := addL_ok' (p := p) f g
  have h2 := frobL_ok hp h1.2 cm h0 k
  rw [h1.1, pw_p_add hp] at h2
  exact Md.unique hp cm h2 (addL_md (frobL_ok hp cf cm h0 k) (frobL_ok hp cg cm h0 k))
theorem frob_prod (hp : IsPr p) {f g m : List Nat} (cf : Canon p f) (cg : Canon p g) (cm : Canon p m) (h0 : m ≠ []) (k : Nat) : frobL p (mulL p f g) m k = remL p (mulL p (frobL p f m k) (frobL p g m k)) m := by
  have h1 := mulL_ok (p := p) f g
  have h2 := frobL_ok hp h1.2 cm h0 k
  rw [h1.1, CR.mul_pw] at h2
  exact Md.unique hp cm h2 (Md.mul hp cm (frobL_ok hp cf cm h0 k) (frobL_ok hp cg cm h0 k))
theorem frob_again (hp : IsPr p) {f m : List Nat} (cf : Canon p f) (cm : Canon p m) (h0 : m ≠ []) (k : Nat) : frobL p (frobL p f m k) m 1 = frobL p f m (k + 1) := by
  have h := frobL_ok hp cf cm h0 k
  have h1 := remL_md hp h.canon cm h0
  have h2 : Md p m (pol p (frobL p f m k)) (frobL p f m k) := ⟨h.canon, h.len, ⟨0, by rw [CR.add_neg, CR.mul_zero]⟩⟩
  have e : remL p (frobL p f m k) m = frobL p f m k := Md.unique hp cm h1 h2
  show powL p (remL p (frobL p f m k) m) m p = powL p (frobL p f m k) m p
  rw [e]
end
end Alg
