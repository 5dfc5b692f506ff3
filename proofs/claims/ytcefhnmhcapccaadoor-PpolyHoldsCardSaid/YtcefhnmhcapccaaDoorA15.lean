/- The two words of a gcd with its cofactors are one. -/
import Derived.Test.YtcefhnmhcapccaaDoorA11
import Derived.Test.YtcefhnmhcapccaaDoorW39
open Alg
namespace Alg
open Poly
theorem one_lead {p : Nat} [NeZero p] {G : List Nat} (cG : Canon p G) (h : (decide (G = []) || decide (nth G (G.length - 1) = 1)) = true) : pol p G = 0 ∨ (pol p G).Monic := by
  rw [Bool.or_eq_true, decide_eq_true_eq, decide_eq_true_eq] at h
  rcases h with h | h
  · exact Or.inl (by rw [h, pol_nil])
  · right
    show (pol p G).lead = 1
    rw [pol_lead cG]
    exact (congrArg Fp.of h).trans Fp.of_one
theorem holds_key {p : Nat} (hp : IsPr p) {f g G U V : List Nat} (cf : Canon p f) (cg : Canon p g) (cG : Canon p G) (hS : addL p (mulL p U f) (mulL p V g) = G) :
    ((decide (G = []) || decide (nth G (G.length - 1) = 1)) && dividesB p G f && dividesB p G g) = decide (G = (gcdL p f g).G) := by
  haveI : NeZero p := ⟨by have := hp.1; omega⟩
  haveI := Fp.isFd hp
  obtain ⟨h1, h2, h3, h4⟩ := gcdL_ok hp f g cf cg
  by_cases hG : G = (gcdL p f g).G
  · rw [decide_eq_true hG]
    rw [hG, lead_one hp h1.cg h4, (dividesB_iff hp h1.cg cf).2 h2, (dividesB_iff hp h1.cg cg).2 h3]
    rfl
  · rw [decide_eq_false hG]
    refine Bool.eq_false_iff.2 fun hx => hG ?_
    rw [Bool.and_eq_true, Bool.and_eq_true] at hx
    obtain ⟨⟨x1, x2⟩, x3⟩ := hx
    have a1 := one_lead cG x1
    have a2 := (dividesB_iff hp cG cf).1 x2
    have a3 := (dividesB_iff hp cG cg).1 x3
    have a4 : pol p G = pol p U * pol p f + pol p V * pol p g := by
      rw [← hS, (addL_ok' (p := p) _ _).1, (mulL_ok U f).1, (mulL_ok V g).1]
    exact canon_ext cG h1.cg (IsGcd.unique (IsGcd.of_comb a2 a3 a4) (IsGcd.of_comb h2 h3 h1.comb.symm) a1 h4)
theorem sameB_comm (p : Nat) (l : List Nat) (q : Nat) (l' : List Nat) : sameB p l q l' = sameB q l' p l := by
  unfold sameB
  congr 1
  exact propext ⟨fun h => ⟨h.1.symm, h.2.symm⟩, fun h => ⟨h.1.symm, h.2.symm⟩⟩
theorem holdsB_eq (p : Nat) (f : List Nat) (q : Nat) (g : List Nat) (pg : Nat) (G : List Nat) (pu : Nat) (U : List Nat) (pv : Nat) (V : List Nat) :
    holdsB p f q g pg G pu U pv V = holdsR p f q g pg G pu U pv V := by
  unfold holdsB holdsR
  cases h0 : (decide (q = p) && decide (pg = p) && decide (pu = p) && decide (pv = p) && rightB p f && rightB p g && rightB p G && rightB p U && rightB p V) with
  | false => simp only [Bool.false_and]
  | true =>
    simp only [Bool.and_eq_true] at h0
    obtain ⟨⟨⟨⟨⟨_, r1⟩, r2⟩, r3⟩, _⟩, _⟩ := h0
    obtain ⟨cf, hp, _⟩ := rightB_true.1 r1
    have cg := (rightB_true.1 r2).1
    have cG := (rightB_true.1 r3).1
    simp only [Bool.true_and]
    rw [sameB_comm p (addL p (mulL p U f) (mulL p V g)) p G]
    by_cases hS : addL p (mulL p U f) (mulL p V g) = G
    · rw [holds_key hp cf cg cG hS]
      have : sameB p G p (gcdL p f g).G = decide (G = (gcdL p f g).G) := by simp [sameB]
      rw [this]
    · have : sameB p G p (addL p (mulL p U f) (mulL p V g)) = false := by
        have hS' : ¬ G = addL p (mulL p U f) (mulL p V g) := fun e => hS e.symm
        simp [sameB, hS']
      rw [this, Bool.and_false, Bool.and_false]
end Alg
