/- The division: quotient and rest make the polynomial again; the rest's degree is below the divisor's. -/
import Derived.Test.YtcdflpkbdabljaaDoorW14
namespace Alg
open Poly
section
variable {p : Nat} [NeZero p]
theorem of_powM (a n : Nat) : (Fp.of (powM p a n) : Fp p) = CR.pw (Fp.of a) n := by rw [powM, Fp.of_mod, Fp.of_pow]
theorem divStep (hp : IsPr p) (f g : List Nat) (inv : Nat) (hf : Canon p f) (hg : Canon p g) (hg0 : g ≠ []) (m : Nat) (hm : m + g.length = f.length + 1)
    (hinv : (Fp.of inv : Fp p) * Fp.of (nth g (g.length - 1)) = 1) : ∀ j, j ≤ m →
    pol p (stepsD p inv g m f j).1 * pol p g + pol p (stepsD p inv g m f j).2 = pol p f ∧ (∀ i, i < m - j → nth (stepsD p inv g m f j).1 i = 0) ∧ (pol p (stepsD p inv g m f j).2).bd (m - j + g.length - 1)
  | 0, _ => by
    refine ⟨?_, fun i _ => ?_, ?_⟩
    · show pol p (List.replicate m 0) * pol p g + pol p f = pol p f
      rw [pol_replicate, CR.zero_mul, CR.zero_add]
    · show (List.replicate m 0).getD i 0 = 0
      rw [List.getD_eq_getElem?_getD, List.getElem?_replicate]; split <;> rfl
    · show (pol p f).bd _
      rw [show m - 0 + g.length - 1 = f.length by omega]; exact pol_bd f
  | j + 1, hj => by
    obtain ⟨hE, hZ, hB⟩ := divStep hp f g inv hf hg hg0 m hm hinv j (by omega)
    obtain ⟨l1, l2⟩ := stepsD_len p inv g m f j
    have gl0 : 0 < g.length := List.length_pos_iff.2 hg0
    obtain ⟨Q, R, hS⟩ : ∃ Q R, stepsD p inv g m f j = (Q, R) := ⟨_, _, rfl⟩
    obtain ⟨k, hk⟩ : ∃ k, k + 1 + j = m := ⟨m - (j + 1), by omega⟩
    rw [stepsD_step p inv g m f j k g.length Q R hS hk rfl]
    rw [hS] at hE hZ hB l1 l2
    simp only at hE hZ hB l1 l2 ⊢
    obtain ⟨c, hc⟩ : ∃ c, c = mulM p (nth R (k + g.length - 1)) inv := ⟨_, rfl⟩
    rw [← hc]
    have hR : pol p (innerD p c k g R g.length) = pol p R + -(C (Fp.of c) * X k * pol p g) := by
      rw [pol_innerD c k g R (fun i => nth_lt hg i) _ (Nat.le_refl _) (by omega), pol_take_all g (Nat.le_refl _)]
    have hQ : pol p (Q.set k c) = pol p Q + C (Fp.of c) * X k := by
      rw [pol_set _ _ (by omega)]
      have h0 : Q.getD k 0 = 0 := hZ k (by omega)
      rw [h0, Fp.of_zero, CR.neg_zero, CR.add_zero]
    refine ⟨?_, fun i hi => ?_, ?_⟩
    · rw [hR, hQ, CR.add_mul, ← hE]
      have : pol p Q * pol p g + C (Fp.of c) * X k * pol p g + (pol p R + -(C (Fp.of c) * X k * pol p g)) = pol p Q * pol p g + pol p R + (C (Fp.of c) * X k * pol p g + -(C (Fp.of c) * X k * pol p g)) := by ac_rfl
      rw [this, CR.add_neg, CR.add_zero]
    · rw [nth_set, if_neg (by omega)]
      exact hZ i (by omega)
    · rw [show m - (j + 1) + g.length - 1 = k + g.length - 1 by omega]
      rw [show m - j + g.length - 1 = k + g.length - 1 + 1 by omega] at hB
      have hXG : (C (Fp.of c) * X k * pol p g).bd (k + g.length - 1 + 1) := by
        intro i hi
        show (C (Fp.of c) * X k * pol p g).c i = 0
        rw [CR.mul_assoc, C_mul_c, X_mul_c]
        split
        · have h0 : (pol p g).c (i - k) = 0 := pol_bd g (i - k) (by omega)
          rw [h0, CR.mul_zero]
        · rw [CR.mul_zero]
      refine bd.last (n := k + g.length - 1) ?_ ?_
      · rw [hR]; exact hB.add hXG.neg
      · rw [hR, c_add, c_neg, CR.mul_assoc, C_mul_c, X_mul_c, if_pos (by omega), show k + g.length - 1 - k = g.length - 1 by omega, pol_c, pol_c, hc, of_mulM, CR.mul_assoc]
        show Fp.of (nth R _) + -(Fp.of (nth R _) * (Fp.of inv * Fp.of (nth g _))) = 0
        rw [hinv, CR.mul_one, CR.add_neg]
theorem divL_ok (hp : IsPr p) (f g : List Nat) (hf : Canon p f) (hg : Canon p g) (hg0 : g ≠ []) :
    pol p (trim (divL p f g).1) * pol p g + pol p (trim (divL p f g).2) = pol p f ∧ Canon p (trim (divL p f g).1) ∧ Canon p (trim (divL p f g).2) ∧ (trim (divL p f g).2).length < g.length := by
  have gl0 : 0 < g.length := List.length_pos_iff.2 hg0
  have hpp : 0 < p := Nat.pos_of_ne_zero (NeZero.ne p)
  have hl : nth g (g.length - 1) ≠ 0 := by
    rcases hg.top with h | h
    · exact absurd h hg0
    · exact h
  have hne : (Fp.of (nth g (g.length - 1)) : Fp p) ≠ 0 := fun h => by
    have h1 := Fp.of_eq_zero.1 h
    have h2 := nth_lt hg (g.length - 1)
    have := Nat.le_of_dvd (by omega) h1
    omega
  have hinv : (Fp.of (powM p (nth g (g.length - 1)) (p - 2)) : Fp p) * Fp.of (nth g (g.length - 1)) = 1 := by
    rw [of_powM]; exact Fp.inv_mul hp hne
  have hlt := stepsD_lt p (powM p (nth g (g.length - 1)) (p - 2)) g (divN f g) f hpp (fun i => nth_lt hf i) (divN f g)
  have mem : ∀ l : List Nat, (∀ i, nth l i < p) → ∀ c, c ∈ l → c < p := fun l h c hc => by
    obtain ⟨i, hi, rfl⟩ := List.mem_iff_getElem.1 hc
    have := h i
    rwa [nth, List.getD_eq_getElem?_getD, List.getElem?_eq_getElem hi] at this
  have hQc : Canon p (trim (divL p f g).1) := Canon.trim (mem _ fun i => (hlt i).1)
  have hRc : Canon p (trim (divL p f g).2) := Canon.trim (mem _ fun i => (hlt i).2)
  refine ⟨?_, hQc, hRc, ?_⟩
  · rw [pol_trim, pol_trim]
    by_cases h : f.length < g.length
    · have e : divN f g = 0 := by unfold divN; omega
      unfold divL
      rw [e]
      show pol p (List.replicate 0 0) * _ + pol p f = _
      rw [pol_replicate, CR.zero_mul, CR.zero_add]
    · exact (divStep hp f g _ hf hg hg0 (divN f g) (by unfold divN; omega) hinv _ (Nat.le_refl _)).1
  · by_cases h : f.length < g.length
    · have e : divN f g = 0 := by unfold divN; omega
      have : (trim (divL p f g).2).length ≤ f.length := by
        refine Nat.le_trans (trim_len _) ?_
        unfold divL
        rw [e]
        exact Nat.le_refl _
      omega
    · have hB := (divStep hp f g _ hf hg hg0 (divN f g) (by unfold divN; omega) hinv _ (Nat.le_refl _)).2.2
      have h2 := len_le hB
      rw [← pol_trim] at h2
      have h3 := pol_len hRc
      have h4 : (pol p (trim (divL p f g).2)).len ≤ divN f g - divN f g + g.length - 1 := h2
      rw [h3] at h4
      omega
end
end Alg
