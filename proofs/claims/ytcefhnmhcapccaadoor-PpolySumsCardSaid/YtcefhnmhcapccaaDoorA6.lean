import Derived.Test.YtcefhnmhcapccaaDoorA5
namespace Alg
open Poly

theorem getD_set (l : List Nat) (j v i : Nat) : (l.set j v).getD i 0 = if i = j ∧ j < l.length then v else l.getD i 0 := by
  rw [List.getD_eq_getElem?_getD, List.getElem?_set, List.getD_eq_getElem?_getD]
  by_cases h : j = i
  · subst h
    by_cases h2 : j < l.length
    · rw [if_pos rfl, if_pos h2, if_pos ⟨rfl, h2⟩]; rfl
    · rw [if_pos rfl, if_neg h2, if_neg (fun h => h2 h.2), List.getElem?_eq_none (by omega)]
  · rw [if_neg h, if_neg (fun h2 => h h2.1.symm)]
theorem getD_take (l : List Nat) (k i : Nat) : (l.take k).getD i 0 = if i < k then l.getD i 0 else 0 := by
  rw [List.getD_eq_getElem?_getD, List.getD_eq_getElem?_getD, List.getElem?_take]
  split <;> rfl
theorem getD_drop (l : List Nat) (k i : Nat) : (l.drop k).getD i 0 = l.getD (k + i) 0 := by
  rw [List.getD_eq_getElem?_getD, List.getD_eq_getElem?_getD, List.getElem?_drop]
theorem getD_ge {l : List Nat} {i : Nat} (h : l.length ≤ i) : l.getD i 0 = 0 := by
  rw [List.getD_eq_getElem?_getD, List.getElem?_eq_none h]; rfl
theorem getD_mem {l : List Nat} {i : Nat} (h : i < l.length) : l.getD i 0 ∈ l := by
  rw [List.getD_eq_getElem?_getD, List.getElem?_eq_getElem h]; exact List.getElem_mem h

/-- what a search from the top finds -/
theorem trim_take (l : List Nat) (n : Nat) (hn : n ≤ l.length) (h0 : ∀ i, n ≤ i → i < l.length → l.getD i 0 = 0) (h1 : n = 0 ∨ l.getD (n - 1) 0 ≠ 0) : l.take n = trim l := by
  have ht : Top (l.take n) := by
    rcases h1 with h1 | h1
    · left; rw [h1]; rfl
    · right
      rw [List.length_take, Nat.min_eq_left hn, getD_take]
      by_cases e : n = 0
      · subst e
        rcases l with _ | ⟨a, l⟩
        · simp at h1
        · rw [if_neg (by omega)]
          exfalso
          exact h1 (h0 0 (by omega) (by simp))
      · rw [if_pos (by omega)]; exact h1
  have e : trim l = trim (l.take n) := by
    -- both have the same coefficients
    have key : ∀ (a b : List Nat), Top a → Top b → (∀ i, a.getD i 0 = b.getD i 0) → a = b := by
      intro a b ha hb hab
      have hlen : ∀ (a b : List Nat), Top a → (∀ i, a.getD i 0 = b.getD i 0) → a.length ≤ b.length := by
        intro a b ha hab
        rcases ha with ha | ha
        · rw [ha]; exact Nat.zero_le _
        · rcases Nat.lt_or_ge b.length a.length with h | h
          · rw [hab, getD_ge (by omega)] at ha; exact absurd rfl ha
          · exact h
      have h1 := hlen a b ha hab
      have h2 := hlen b a hb fun i => (hab i).symm
      apply List.ext_getElem (by omega)
      intro i h3 h4
      have := hab i
      rwa [List.getD_eq_getElem?_getD, List.getD_eq_getElem?_getD, List.getElem?_eq_getElem h3, List.getElem?_eq_getElem h4] at this
    apply key _ _ (trim_top _) (trim_top _)
    intro i
    rw [trim_getD, trim_getD, getD_take]
    by_cases h : i < n
    · rw [if_pos h]
    · rw [if_neg h]
      by_cases h2 : i < l.length
      · exact h0 i (by omega) h2
      · exact getD_ge (by omega)
  rw [e, trim_of_top ht]

section
variable {p : Nat} [NeZero p]
theorem pol_set (l : List Nat) {j : Nat} (v : Nat) (h : j < l.length) : pol p (l.set j v) = pol p l + C (Fp.of v + -Fp.of (l.getD j 0)) * X j := Poly.ext fun i => by
  rw [c_add, C_mul_c, c_X, pol_c, pol_c, getD_set]
  by_cases e : i = j
  · subst e
    rw [if_pos ⟨rfl, h⟩, if_pos rfl, CR.mul_one, CR.add_comm, CR.add_assoc, CR.neg_add, CR.add_zero]
  · rw [if_neg (fun h => e h.1), if_neg e, CR.mul_zero, CR.add_zero]
theorem pol_take_succ (l : List Nat) (k : Nat) : pol p (l.take (k + 1)) = pol p (l.take k) + C (Fp.of (l.getD k 0)) * X k := Poly.ext fun i => by
  rw [c_add, C_mul_c, c_X, pol_c, pol_c, getD_take, getD_take]
  by_cases e : i = k
  · subst e; rw [if_pos (by omega), if_neg (by omega), if_pos rfl, CR.mul_one]; show _ = Fp.of 0 + _; rw [Fp.of_zero, CR.zero_add]
  · rw [if_neg e, CR.mul_zero, CR.add_zero]
    by_cases h : i < k
    · rw [if_pos h, if_pos (by omega)]
    · rw [if_neg h, if_neg (by omega)]
theorem pol_take_zero (l : List Nat) : pol p (l.take 0) = 0 := by rw [List.take_zero, pol_nil]
theorem pol_take_all (l : List Nat) {k : Nat} (h : l.length ≤ k) : pol p (l.take k) = pol p l := by rw [List.take_of_length_le h]
theorem pol_replicate (n : Nat) : pol p (List.replicate n 0) = 0 := Poly.ext fun i => by
  rw [pol_c, c_zero, List.getD_eq_getElem?_getD, List.getElem?_replicate]; split <;> rfl
theorem pol_drop (l : List Nat) (k : Nat) : pol p (l.drop k) = C (Fp.of (l.getD k 0)) + X 1 * pol p (l.drop (k + 1)) := Poly.ext fun i => by
  rw [c_add, c_C, X_mul_c, pol_c, pol_c, getD_drop, getD_drop]
  cases i with
  | zero => rw [if_pos rfl, if_neg (by omega), CR.add_zero]; rfl
  | succ i => rw [if_neg (by omega), if_pos (by omega), CR.zero_add]; congr 2; omega
theorem pol_append_zero (l : List Nat) : pol p (l ++ [0]) = pol p l := Poly.ext fun i => by
  rw [pol_c, pol_c, List.getD_eq_getElem?_getD, List.getD_eq_getElem?_getD, List.getElem?_append]
  by_cases h : i < l.length
  · rw [if_pos h]
  · rw [if_neg h, List.getElem?_eq_none (by omega : l.length ≤ i)]
    cases i - l.length with
    | zero => rfl
    | succ k => rfl
/-- a sum, place by place -/
theorem pol_zip (f g : List Nat) (n : Nat) (hf : f.length ≤ n) (hg : g.length ≤ n) (op : Nat → Nat → Nat) (φ ψ : Fp p)
    (hop : ∀ a b, (Fp.of (op a b) : Fp p) = φ * Fp.of a + ψ * Fp.of b) :
    pol p ((List.range n).map fun i => op (f.getD i 0) (g.getD i 0)) = C φ * pol p f + C ψ * pol p g := Poly.ext fun i => by
  rw [c_add, C_mul_c, C_mul_c, pol_ofFn, pol_c, pol_c]
  by_cases h : i < n
  · rw [if_pos h, hop]
  · rw [if_neg h, getD_ge (by omega), getD_ge (by omega), Fp.of_zero, CR.mul_zero, CR.mul_zero, CR.add_zero]
/-- the derivative, place by place -/
theorem pol_diff (f : List Nat) (F : Nat → Nat) (hF : ∀ i, i + 1 < f.length → (Fp.of (F i) : Fp p) = Fp.of (i + 1) * Fp.of (f.getD (i + 1) 0)) :
    pol p ((List.range (f.length - 1)).map F) = D (pol p f) := Poly.ext fun i => by
  rw [c_D, pol_ofFn, pol_c, Fp.nat_eq]
  by_cases h : i < f.length - 1
  · rw [if_pos h, hF i (by omega)]
  · rw [if_neg h, getD_ge (by omega), Fp.of_zero, CR.mul_zero]
end
end Alg
