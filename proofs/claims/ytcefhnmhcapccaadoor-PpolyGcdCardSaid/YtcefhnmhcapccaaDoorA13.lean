/- The gcd of two with a factor more is the gcd with that factor more, made monic. -/
import Derived.Test.YtcefhnmhcapccaaDoorS1
import Derived.Test.YtcefhnmhcapccaaDoorA11
open Alg
namespace Alg
open Poly
theorem mnL_ok {p : Nat} [NeZero p] (hp : IsPr p) {l : List Nat} (cl : Canon p l) :
    Canon p (mnL p l) ∧ Dv (pol p (mnL p l)) (pol p l) ∧ Dv (pol p l) (pol p (mnL p l)) ∧ (pol p (mnL p l) = 0 ∨ (pol p (mnL p l)).Monic) := by
  haveI := Fp.isFd hp
  by_cases h0 : l = []
  · have e : mnL p l = [] := by unfold mnL; rw [if_pos h0]
    rw [e, h0]
    exact ⟨canon_nil, Dv.refl _, Dv.refl _, Or.inl (by rw [pol_nil])⟩
  · have e : mnL p l = scL p (powM p (nth l (l.length - 1)) (p - 2)) l := by unfold mnL; rw [if_neg h0]; rfl
    rw [e]
    have hi := inv_lead hp cl h0
    generalize powM p (nth l (l.length - 1)) (p - 2) = c at *
    have hc : (Fp.of c : Fp p) ≠ 0 := fun h => Fp.one_ne_zero hp (by rw [← hi, h, CR.zero_mul])
    have a1 := scL_ok (p := p) c l
    refine ⟨a1.2, ?_, ?_, Or.inr ?_⟩
    · rw [a1.1]; exact dv_C_mul hc _
    · rw [a1.1]; exact Dv.mul_self _ _
    · show (pol p (scL p c l)).lead = 1
      rw [a1.1, lead_mul (C_ne hc) (pol_ne cl h0), lead_C hc, pol_lead cl]
      exact hi
theorem gcd_factor {p : Nat} (hp : IsPr p) {f g h : List Nat} (cf : Canon p f) (cg : Canon p g) :
    (gcdL p (mulL p f h) (mulL p g h)).G = mnL p (mulL p (gcdL p f g).G h) := by
  haveI : NeZero p := ⟨by have := hp.1; omega⟩
  haveI := Fp.isFd hp
  obtain ⟨h1, h2, h3, _⟩ := gcdL_ok hp f g cf cg
  obtain ⟨mf, kf⟩ := mulL_ok (p := p) f h
  obtain ⟨mg, kg⟩ := mulL_ok (p := p) g h
  obtain ⟨md, kd⟩ := mulL_ok (p := p) (gcdL p f g).G h
  obtain ⟨i1, i2, i3, i4⟩ := gcdL_ok hp (mulL p f h) (mulL p g h) kf kg
  obtain ⟨j1, j2, j3, j4⟩ := mnL_ok hp kd
  have A := IsGcd.mul_right h2 h3 h1.comb.symm (pol p h)
  have B := IsGcd.of_comb i2 i3 i1.comb.symm
  rw [← md, ← mf, ← mg] at A
  have D : IsGcd (pol p (mnL p (mulL p (gcdL p f g).G h))) (pol p (mulL p f h)) (pol p (mulL p g h)) :=
    ⟨j2.trans A.left, j2.trans A.right, fun e a b => (A.most e a b).trans j3⟩
  exact canon_ext i1.cg j1 (IsGcd.unique B D i4 j4)
end Alg
