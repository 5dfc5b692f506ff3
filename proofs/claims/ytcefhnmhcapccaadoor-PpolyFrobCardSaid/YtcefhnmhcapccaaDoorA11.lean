/- The gcd with its cofactors is one by both words of it. -/
import Derived.Test.YtcefhnmhcapccaaDoorW29
open Alg
namespace Alg
open Poly
theorem addL_comb {p : Nat} [NeZero p] {f g G U V : List Nat} (cG : Canon p G) (h : pol p U * pol p f + pol p V * pol p g = pol p G) : addL p (mulL p U f) (mulL p V g) = G := by
  have h1 := addL_ok' (p := p) (mulL p U f) (mulL p V g)
  refine canon_ext h1.2 cG ?_
  rw [h1.1, (mulL_ok U f).1, (mulL_ok V g).1, h]
theorem dividesB_iff {p : Nat} [NeZero p] (hp : IsPr p) {f g : List Nat} (cf : Canon p f) (cg : Canon p g) : dividesB p f g = true ↔ Dv (pol p f) (pol p g) := by
  haveI := Fp.isFd hp
  unfold dividesB
  split
  · rename_i h0
    subst h0
    rw [decide_eq_true_eq, pol_nil]
    constructor
    · intro h; rw [h, pol_nil]; exact Dv.refl _
    · intro h; exact (pol_eq_zero cg).1 h.of_zero
  · rename_i h0
    rw [decide_eq_true_eq]
    obtain ⟨d1, d2, d3, d4⟩ := divL_ok hp g f cg cf h0
    have h5 := dv_rem (f := pol p g) (g := pol p f) (q := pol p (trim (divL p g f).1)) (r := pol p (trim (divL p g f).2)) d1.symm (by rw [pol_len d3, pol_len cf]; exact d4)
    rw [h5, pol_eq_zero d3]
theorem lead_one {p : Nat} [NeZero p] (hp : IsPr p) {G : List Nat} (cG : Canon p G) (h : pol p G = 0 ∨ (pol p G).Monic) : (decide (G = []) || decide (nth G (G.length - 1) = 1)) = true := by
  rcases h with h | h
  · simp [(pol_eq_zero cG).1 h]
  · have h1 : (pol p G).lead = 1 := h
    rw [pol_lead cG, ← Fp.of_one] at h1
    have h2 := Fp.of_inj (nth_lt cG (G.length - 1)) hp.1 h1
    have h3 : nth G (G.length - 1) = 1 := h2
    rw [h3, decide_eq_true (rfl : (1 : Nat) = 1), Bool.or_true]
theorem holdsB_gcd {p : Nat} (hp : IsPr p) (hp2 : p < 2147483648) {f g : List Nat} (cf : Canon p f) (cg : Canon p g) :
    holdsB p f p g p (gcdL p f g).G p (gcdL p f g).U p (gcdL p f g).V = true := by
  haveI : NeZero p := ⟨by have := hp.1; omega⟩
  obtain ⟨h1, h2, h3, h4⟩ := gcdL_ok hp f g cf cg
  have r := fun (l : List Nat) (c : Canon p l) => rightB_true.2 ⟨c, hp, hp2⟩
  simp only [holdsB, decide_true, Bool.true_and, r f cf, r g cg, r _ h1.cg, r _ h1.cu, r _ h1.cv, lead_one hp h1.cg h4, (dividesB_iff hp h1.cg cf).2 h2, (dividesB_iff hp h1.cg cg).2 h3, addL_comb h1.cg h1.comb]
  exact sameB_true.2 ⟨rfl, rfl⟩
theorem pr5 : IsPr 5 := by
  rw [isPr_iff]
  refine ⟨by omega, fun d h1 h2 h3 => ?_⟩
  have h4 : d = 2 := by
    rcases Nat.lt_or_ge d 3 with h | h
    · omega
    · have := Nat.mul_le_mul h h; omega
  subst h4
  omega
end Alg
