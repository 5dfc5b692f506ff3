/- Plain: what the double loops over coefficients reckon. -/
import Derived.Test.YtcefhnmhcapccaaDoorA6
namespace Alg
open Poly
def nth (l : List Nat) (i : Nat) : Nat := l.getD i 0
def addM (p a b : Nat) : Nat := (a + b) % p
def mulM (p a b : Nat) : Nat := a * b % p
def negM (p a : Nat) : Nat := if a = 0 then 0 else p - a
def subM (p a b : Nat) : Nat := addM p a (negM p b)
theorem addM_lt (p a b : Nat) (h : 0 < p) : addM p a b < p := Nat.mod_lt _ h
theorem mulM_lt (p a b : Nat) (h : 0 < p) : mulM p a b < p := Nat.mod_lt _ h
theorem negM_le (p a : Nat) : negM p a ≤ p := by unfold negM; split <;> omega
theorem subM_lt (p a b : Nat) (h : 0 < p) : subM p a b < p := addM_lt _ _ _ h
theorem nth_set (l : List Nat) (j v i : Nat) : nth (l.set j v) i = if i = j ∧ j < l.length then v else nth l i := getD_set l j v i

/-- c, with a g added from place i on: the first k terms of g -/
def innerM (p a i : Nat) (g : List Nat) (c : List Nat) : Nat → List Nat
  | 0 => c
  | k + 1 => (innerM p a i g c k).set (i + k) (addM p (nth (innerM p a i g c k) (i + k)) (mulM p a (nth g k)))
/-- the first i rows of a product -/
def outerM (p : Nat) (f g : List Nat) (n : Nat) : Nat → List Nat
  | 0 => List.replicate n 0
  | i + 1 => innerM p (nth f i) i g (outerM p f g n i) g.length
theorem innerM_len (p a i : Nat) (g c : List Nat) : ∀ k, (innerM p a i g c k).length = c.length
  | 0 => rfl
  | k + 1 => by unfold innerM; rw [List.length_set, innerM_len p a i g c k]
theorem outerM_len (p : Nat) (f g : List Nat) (n : Nat) : ∀ i, (outerM p f g n i).length = n
  | 0 => List.length_replicate
  | i + 1 => by unfold outerM; rw [innerM_len, outerM_len p f g n i]
theorem innerM_lt (p a i : Nat) (g c : List Nat) (hp : 0 < p) (h : ∀ j, nth c j < p) : ∀ k j, nth (innerM p a i g c k) j < p
  | 0, j => h j
  | k + 1, j => by
    unfold innerM; rw [nth_set]; split
    · exact addM_lt _ _ _ hp
    · exact innerM_lt p a i g c hp h k j
theorem outerM_lt (p : Nat) (f g : List Nat) (n : Nat) (hp : 0 < p) : ∀ i j, nth (outerM p f g n i) j < p
  | 0, j => by show (List.replicate n 0).getD j 0 < p; rw [List.getD_eq_getElem?_getD, List.getElem?_replicate]; split <;> exact hp
  | i + 1, j => by unfold outerM; exact innerM_lt _ _ _ _ _ hp (outerM_lt p f g n hp i) _ j

/-- rest, with c g taken away from place k on: the first i terms of g -/
def innerD (p c k : Nat) (g : List Nat) (r : List Nat) : Nat → List Nat
  | 0 => r
  | i + 1 => (innerD p c k g r i).set (k + i) (subM p (nth (innerD p c k g r i) (k + i)) (mulM p c (nth g i)))
theorem innerD_len (p c k : Nat) (g r : List Nat) : ∀ i, (innerD p c k g r i).length = r.length
  | 0 => rfl
  | i + 1 => by unfold innerD; rw [List.length_set, innerD_len p c k g r i]
theorem innerD_lt (p c k : Nat) (g r : List Nat) (hp : 0 < p) (h : ∀ j, nth r j < p) : ∀ i j, nth (innerD p c k g r i) j < p
  | 0, j => h j
  | i + 1, j => by
    unfold innerD; rw [nth_set]; split
    · exact addM_lt _ _ _ hp
    · exact innerD_lt p c k g r hp h i j
/-- quotient and rest behind the steps at the places m-1 .. m-j: (quotient, rest) -/
def stepsD (p inv : Nat) (g : List Nat) (m : Nat) (f : List Nat) : Nat → List Nat × List Nat
  | 0 => (List.replicate m 0, f)
  | j + 1 =>
    ((stepsD p inv g m f j).1.set (m - (j + 1)) (mulM p (nth (stepsD p inv g m f j).2 (m - (j + 1) + g.length - 1)) inv),
     innerD p (mulM p (nth (stepsD p inv g m f j).2 (m - (j + 1) + g.length - 1)) inv) (m - (j + 1)) g (stepsD p inv g m f j).2 g.length)
theorem stepsD_len (p inv : Nat) (g : List Nat) (m : Nat) (f : List Nat) : ∀ j, (stepsD p inv g m f j).1.length = m ∧ (stepsD p inv g m f j).2.length = f.length
  | 0 => ⟨List.length_replicate, rfl⟩
  | j + 1 => by
    obtain ⟨h1, h2⟩ := stepsD_len p inv g m f j
    exact ⟨by show (List.set _ _ _).length = m; rw [List.length_set, h1], by show (innerD _ _ _ _ _ _).length = _; rw [innerD_len, h2]⟩
theorem stepsD_lt (p inv : Nat) (g : List Nat) (m : Nat) (f : List Nat) (hp : 0 < p) (hf : ∀ i, nth f i < p) : ∀ j i, nth (stepsD p inv g m f j).1 i < p ∧ nth (stepsD p inv g m f j).2 i < p
  | 0, i => ⟨by show (List.replicate m 0).getD i 0 < p; rw [List.getD_eq_getElem?_getD, List.getElem?_replicate]; split <;> exact hp, hf i⟩
  | j + 1, i => by
    refine ⟨?_, innerD_lt p _ _ g _ hp (fun i => (stepsD_lt p inv g m f hp hf j i).2) _ i⟩
    show nth (List.set _ _ _) i < p
    rw [nth_set]; split
    · exact mulM_lt _ _ _ hp
    · exact (stepsD_lt p inv g m f hp hf j i).1

/-- a product's coefficients -/
def mulL (p : Nat) (f g : List Nat) : List Nat := if f.length = 0 ∨ g.length = 0 then [] else trim (outerM p f g (f.length + g.length - 1) f.length)
section
variable {p : Nat} [NeZero p]
theorem of_addM (a b : Nat) : (Fp.of (addM p a b) : Fp p) = Fp.of a + Fp.of b := by rw [addM, Fp.of_mod, Fp.of_add]
theorem of_mulM (a b : Nat) : (Fp.of (mulM p a b) : Fp p) = Fp.of a * Fp.of b := by rw [mulM, Fp.of_mod, Fp.of_mul]
theorem of_negM (b : Nat) (h : b ≤ p) : (Fp.of (negM p b) : Fp p) = -Fp.of b := by
  unfold negM; split
  · rename_i e; rw [e, Fp.of_zero, CR.neg_zero]
  · exact Fp.of_neg h
theorem of_subM (a b : Nat) (h : b ≤ p) : (Fp.of (subM p a b) : Fp p) = Fp.of a + -Fp.of b := by rw [subM, of_addM, of_negM b h]
theorem nth_lt {l : List Nat} (h : Canon p l) (i : Nat) : nth l i < p := h.getD i

theorem pol_innerM (a i : Nat) (g c : List Nat) : ∀ k, k ≤ g.length → i + g.length ≤ c.length →
    pol p (innerM p a i g c k) = pol p c + C (Fp.of a) * X i * pol p (g.take k)
  | 0, _, _ => by rw [pol_take_zero, CR.mul_zero, CR.add_zero]; rfl
  | k + 1, hk, hc => by
    unfold innerM
    rw [pol_set _ _ (by rw [innerM_len]; omega), pol_innerM a i g c k (by omega) hc, pol_take_succ, of_addM, of_mulM, CR.mul_add]
    have e : C (Fp.of (nth (innerM p a i g c k) (i + k)) + Fp.of a * Fp.of (nth g k) + -Fp.of ((innerM p a i g c k).getD (i + k) 0)) * (X (i + k) : Poly (Fp p)) = C (Fp.of a) * X i * (C (Fp.of (g.getD k 0)) * X k) := by
      have e2 : (Fp.of (nth (innerM p a i g c k) (i + k)) + Fp.of a * Fp.of (nth g k) + -Fp.of ((innerM p a i g c k).getD (i + k) 0) : Fp p) = Fp.of a * Fp.of (g.getD k 0) := by
        have : (Fp.of (nth (innerM p a i g c k) (i + k)) + Fp.of a * Fp.of (nth g k) + -Fp.of ((innerM p a i g c k).getD (i + k) 0) : Fp p) = Fp.of a * Fp.of (nth g k) + (Fp.of (nth (innerM p a i g c k) (i + k)) + -Fp.of (nth (innerM p a i g c k) (i + k))) := by
          show _ + _ + -Fp.of (nth _ _) = _
          ac_rfl
        rw [this, CR.add_neg, CR.add_zero]; rfl
      rw [e2, CX_mul]
    rw [e]; ac_rfl
theorem pol_outerM (f g : List Nat) (n : Nat) : ∀ i, i ≤ f.length → f.length + g.length ≤ n + 1 → pol p (outerM p f g n i) = pol p (f.take i) * pol p g
  | 0, _, _ => by rw [pol_take_zero, CR.zero_mul]; exact pol_replicate n
  | i + 1, hi, hn => by
    unfold outerM
    rw [pol_innerM _ _ _ _ _ (Nat.le_refl _) (by rw [outerM_len]; omega), pol_outerM f g n i (by omega) hn, pol_take_succ, CR.add_mul, pol_take_all g (Nat.le_refl _)]
    rfl
theorem pol_outerM_all (f g : List Nat) (n : Nat) (h : f.length + g.length ≤ n + 1) : pol p (outerM p f g n f.length) = pol p f * pol p g := by
  rw [pol_outerM f g n _ (Nat.le_refl _) h, pol_take_all f (Nat.le_refl _)]

theorem mulL_ok (f g : List Nat) : pol p (mulL p f g) = pol p f * pol p g ∧ Canon p (mulL p f g) := by
  unfold mulL
  split
  · rename_i h
    refine ⟨?_, canon_nil⟩
    rcases h with h | h
    · rw [List.length_eq_zero_iff.1 h, pol_nil, CR.zero_mul]
    · rw [List.length_eq_zero_iff.1 h, pol_nil, CR.mul_zero]
  · rename_i h
    refine ⟨?_, Canon.trim ?_⟩
    · rw [pol_trim, pol_outerM_all f g _ (by omega)]
    · intro c hc
      obtain ⟨i, hi, rfl⟩ := List.mem_iff_getElem.1 hc
      have := outerM_lt p f g (f.length + g.length - 1) (Nat.pos_of_ne_zero (NeZero.ne p)) f.length i
      rwa [nth, List.getD_eq_getElem?_getD, List.getElem?_eq_getElem hi] at this
theorem pol_innerD (c k : Nat) (g r : List Nat) (hg : ∀ i, nth g i < p) : ∀ i, i ≤ g.length → k + g.length ≤ r.length →
    pol p (innerD p c k g r i) = pol p r + -(C (Fp.of c) * X k * pol p (g.take i))
  | 0, _, _ => by rw [pol_take_zero, CR.mul_zero, CR.neg_zero, CR.add_zero]; rfl
  | i + 1, hi, hr => by
    unfold innerD
    have hp : 0 < p := Nat.pos_of_ne_zero (NeZero.ne p)
    rw [pol_set _ _ (by rw [innerD_len]; omega), pol_innerD c k g r hg i (by omega) hr, pol_take_succ, of_subM _ _ (Nat.le_of_lt (mulM_lt _ _ _ hp)), of_mulM, CR.mul_add, CR.neg_add_eq]
    have e : C (Fp.of (nth (innerD p c k g r i) (k + i)) + -(Fp.of c * Fp.of (nth g i)) + -Fp.of ((innerD p c k g r i).getD (k + i) 0)) * (X (k + i) : Poly (Fp p)) = -(C (Fp.of c) * X k * (C (Fp.of (g.getD i 0)) * X i)) := by
      have e2 : (Fp.of (nth (innerD p c k g r i) (k + i)) + -(Fp.of c * Fp.of (nth g i)) + -Fp.of ((innerD p c k g r i).getD (k + i) 0) : Fp p) = -(Fp.of c * Fp.of (g.getD i 0)) := by
        have : (Fp.of (nth (innerD p c k g r i) (k + i)) + -(Fp.of c * Fp.of (nth g i)) + -Fp.of ((innerD p c k g r i).getD (k + i) 0) : Fp p) = -(Fp.of c * Fp.of (nth g i)) + (Fp.of (nth (innerD p c k g r i) (k + i)) + -Fp.of (nth (innerD p c k g r i) (k + i))) := by
          show _ + _ + -Fp.of (nth _ _) = _
          ac_rfl
        rw [this, CR.add_neg, CR.add_zero]; rfl
      rw [e2, CX_mul, C_neg, CR.neg_mul]
    rw [e]; ac_rfl
end
end Alg
