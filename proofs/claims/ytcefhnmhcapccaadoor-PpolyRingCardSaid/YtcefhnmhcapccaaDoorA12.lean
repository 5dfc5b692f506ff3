/- Laws of sums, products, values, derivatives of lists of coefficients. -/
import Derived.Test.YtcefhnmhcapccaaDoorA10
import Derived.Test.YtcefhnmhcapccaaDoorW28
import Derived.Test.YtcefhnmhcapccaaDoorW32
open Alg
namespace Alg
open Poly
section
variable {p : Nat} [NeZero p]
theorem valB_back (a : Nat) (l : List Nat) : ∀ k, k ≤ l.length → (Fp.of (valB p a (backL l l.length k)) : Fp p) = ev (Fp.of a) (pol p (l.drop (l.length - k)))
  | 0, _ => by
    have : l.drop (l.length - 0) = [] := by rw [Nat.sub_zero, List.drop_length]
    rw [this, pol_nil, ev_zero]
    exact Fp.of_zero
  | k + 1, h => by
    have ih := valB_back a l k (by omega)
    have e : l.length - k = l.length - (k + 1) + 1 := by omega
    rw [backL_succ, valB_snoc, of_addM, of_mulM, ih, show l.length - 1 - k = l.length - (k + 1) by omega, e, pol_drop l (l.length - (k + 1)), ev_add, ev_C, ev_mul, ev_X, CR.pw_one]
    rw [CR.add_comm, CR.mul_comm (Fp.of a)]
    rfl
theorem valL_ev (l : List Nat) (a : Nat) : (Fp.of (valL p l a) : Fp p) = ev (Fp.of a) (pol p l) := by
  unfold valL
  rw [valB_back a l _ (Nat.le_refl _), Nat.sub_self, List.drop_zero]
theorem valL_lt (l : List Nat) (a : Nat) : valL p l a < p := valB_lt _ _ _ (Nat.pos_of_ne_zero (NeZero.ne p))
theorem dfL_ok (l : List Nat) : pol p (dfL p l) = D (pol p l) ∧ Canon p (dfL p l) := by
  unfold dfL
  refine ⟨?_, range_canon _ _ fun i => mulM_lt _ _ _ (Nat.pos_of_ne_zero (NeZero.ne p))⟩
  rw [pol_trim]
  refine pol_diff l (dfC p l) fun i _ => ?_
  rw [dfC, of_mulM, Fp.of_mod, CR.mul_comm]
  rfl
theorem ring_assoc (f g h : List Nat) : mulL p (mulL p f g) h = mulL p f (mulL p g h) :=
  canon_ext (mulL_ok (p := p) _ _).2 (mulL_ok (p := p) _ _).2 (by rw [(mulL_ok _ _).1, (mulL_ok _ _).1, (mulL_ok _ _).1, (mulL_ok _ _).1, CR.mul_assoc])
theorem ring_comm (f g : List Nat) : mulL p f g = mulL p g f :=
  canon_ext (mulL_ok (p := p) _ _).2 (mulL_ok (p := p) _ _).2 (by rw [(mulL_ok _ _).1, (mulL_ok _ _).1, CR.mul_comm])
theorem ring_dist (f g h : List Nat) : mulL p f (addL p g h) = addL p (mulL p f g) (mulL p f h) :=
  canon_ext (mulL_ok (p := p) _ _).2 (addL_ok' (p := p) _ _).2 (by rw [(mulL_ok _ _).1, (addL_ok' _ _).1, (addL_ok' _ _).1, (mulL_ok _ _).1, (mulL_ok _ _).1, CR.mul_add])
theorem ring_diff (f g : List Nat) : dfL p (mulL p f g) = addL p (mulL p (dfL p f) g) (mulL p f (dfL p g)) :=
  canon_ext (dfL_ok (p := p) _).2 (addL_ok' (p := p) _ _).2 (by rw [(dfL_ok _).1, (mulL_ok _ _).1, (addL_ok' _ _).1, (mulL_ok _ _).1, (mulL_ok _ _).1, (dfL_ok _).1, (dfL_ok _).1, D_mul])
theorem val_mul (f g : List Nat) (a : Nat) : valL p (mulL p f g) a = valL p f a * valL p g a % p := by
  refine Fp.of_inj (p := p) (valL_lt _ _) (Nat.mod_lt _ (Nat.pos_of_ne_zero (NeZero.ne p))) ?_
  rw [Fp.of_mod, Fp.of_mul, valL_ev, valL_ev, valL_ev, (mulL_ok _ _).1, ev_mul]
theorem val_add (f g : List Nat) (a : Nat) : valL p (addL p f g) a = (valL p f a + valL p g a) % p := by
  refine Fp.of_inj (p := p) (valL_lt _ _) (Nat.mod_lt _ (Nat.pos_of_ne_zero (NeZero.ne p))) ?_
  rw [Fp.of_mod, Fp.of_add, valL_ev, valL_ev, valL_ev, (addL_ok' _ _).1, ev_add]
omit [NeZero p] in
theorem dfL_len (l : List Nat) : (dfL p l).length ≤ l.length := Nat.le_trans (range_le (Nat.le_refl _)) (Nat.sub_le _ _)
end
end Alg
