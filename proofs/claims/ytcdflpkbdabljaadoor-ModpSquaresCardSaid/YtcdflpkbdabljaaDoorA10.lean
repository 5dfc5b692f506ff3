/- The gcd of two lists of coefficients, step by step; its cofactors; its laws. -/
import Derived.Test.YtcdflpkbdabljaaDoorA9
open Alg
namespace Alg
open Poly
def addL (p : Nat) (f g : List Nat) : List Nat := trim ((List.range (max f.length g.length)).map fun i => addM p (nth f i) (nth g i))
def sbL (p : Nat) (f g : List Nat) : List Nat := trim ((List.range (max f.length g.length)).map fun i => subM p (nth f i) (nth g i))
def scL (p c : Nat) (f : List Nat) : List Nat := trim ((List.range f.length).map fun i => mulM p (nth f i) c)
/-- one with its cofactors -/
structure T3 where
  G : List Nat
  U : List Nat
  V : List Nat
def gstep (p : Nat) (x y : T3) : T3 :=
  ⟨trim (divL p x.G y.G).2, sbL p x.U (mulL p (trim (divL p x.G y.G).1) y.U), sbL p x.V (mulL p (trim (divL p x.G y.G).1) y.V)⟩
def gloop (p : Nat) : Nat → T3 → T3 → T3
  | 0, x, _ => x
  | k + 1, x, y => if y.G = [] then x else gloop p k y (gstep p x y)
def gfin (p : Nat) (x : T3) : T3 :=
  if x.G = [] then x else ⟨scL p (powM p (nth x.G (x.G.length - 1)) (p - 2)) x.G, scL p (powM p (nth x.G (x.G.length - 1)) (p - 2)) x.U, scL p (powM p (nth x.G (x.G.length - 1)) (p - 2)) x.V⟩
def gcd0 (p : Nat) (f g : List Nat) : T3 := gloop p (g.length + 1) ⟨f, [1], []⟩ ⟨g, [], [1]⟩
def gcdL (p : Nat) (f g : List Nat) : T3 := gfin p (gcd0 p f g)
theorem range_le {F : Nat → Nat} {n N : Nat} (h : n ≤ N) : (trim ((List.range n).map F)).length ≤ N := by
  have := trim_len ((List.range n).map F)
  simp only [List.length_map, List.length_range] at this
  omega
theorem sbL_len (p : Nat) (f g : List Nat) : (sbL p f g).length ≤ max f.length g.length := range_le (Nat.le_refl _)
theorem addL_len (p : Nat) (f g : List Nat) : (addL p f g).length ≤ max f.length g.length := range_le (Nat.le_refl _)
theorem scL_len (p c : Nat) (f : List Nat) : (scL p c f).length ≤ f.length := range_le (Nat.le_refl _)
theorem mulL_len2 (p : Nat) (f g : List Nat) : (mulL p f g).length + 1 ≤ f.length + g.length ∨ mulL p f g = [] := by
  unfold mulL
  split
  · exact Or.inr rfl
  · left
    have := trim_len (outerM p f g (f.length + g.length - 1) f.length)
    rw [outerM_len] at this
    omega
theorem divQ_len (p : Nat) (f g : List Nat) : (trim (divL p f g).1).length ≤ f.length + 1 - g.length := by
  refine Nat.le_trans (trim_len _) ?_
  unfold divL
  rw [(stepsD_len _ _ _ _ _ _).1]
  exact Nat.le_refl _
theorem divR_len (p : Nat) (f g : List Nat) : (trim (divL p f g).2).length ≤ f.length := by
  refine Nat.le_trans (trim_len _) ?_
  unfold divL
  rw [(stepsD_len _ _ _ _ _ _).2]
  exact Nat.le_refl _
/-- the cofactors stay short -/
structure GLen (N : Nat) (x y : T3) : Prop where
  a : x.U.length + y.G.length ≤ N
  b : y.U.length + x.G.length ≤ N
  c : x.V.length + y.G.length ≤ N
  d : y.V.length + x.G.length ≤ N
  e : y.U.length ≤ N
  f : y.V.length ≤ N
theorem cof_len (p : Nat) (x y : T3) (u v : List Nat) {N : Nat} (_hy : 0 < y.G.length) (ha : u.length + y.G.length ≤ N) (hb : v.length + x.G.length ≤ N) :
    (sbL p u (mulL p (trim (divL p x.G y.G).1) v)).length + y.G.length ≤ N := by
  have h1 := sbL_len p u (mulL p (trim (divL p x.G y.G).1) v)
  have h2 := divQ_len p x.G y.G
  rcases mulL_len2 p (trim (divL p x.G y.G).1) v with h3 | h3
  · have h4 := Nat.max_le.2 ⟨(show u.length ≤ N - y.G.length by omega), (show (mulL p (trim (divL p x.G y.G).1) v).length ≤ N - y.G.length by
      by_cases h5 : trim (divL p x.G y.G).1 = []
      · rw [h5]; unfold mulL; simp
      · have := List.length_pos_iff.2 h5; omega)⟩
    omega
  · rw [h3] at h1 ⊢
    simp at h1
    omega
theorem GLen.step {p N : Nat} {x y : T3} (h : GLen N x y) (hy : y.G ≠ []) : GLen N y (gstep p x y) := by
  have h1 := divR_len p x.G y.G
  have h2 := List.length_pos_iff.2 hy
  have h3 := cof_len p x y x.U y.U h2 h.a h.b
  have h4 := cof_len p x y x.V y.V h2 h.c h.d
  have h5 := h.b
  have h6 := h.d
  exact ⟨by show _ + (trim (divL p x.G y.G).2).length ≤ N; omega, h3, by show _ + (trim (divL p x.G y.G).2).length ≤ N; omega, h4, by show (sbL _ _ _).length ≤ N; omega, by show (sbL _ _ _).length ≤ N; omega⟩
section
variable {p : Nat} [NeZero p]
omit [NeZero p] in
theorem range_canon (F : Nat → Nat) (n : Nat) (h : ∀ i, F i < p) : Canon p (trim ((List.range n).map F)) :=
  Canon.trim fun c hc => by
    obtain ⟨i, _, rfl⟩ := List.mem_map.1 hc
    exact h i
theorem addL_ok' (f g : List Nat) : pol p (addL p f g) = pol p f + pol p g ∧ Canon p (addL p f g) := by
  refine ⟨?_, range_canon _ _ fun i => addM_lt _ _ _ (Nat.pos_of_ne_zero (NeZero.ne p))⟩
  unfold addL
  rw [pol_trim]
  refine Poly.ext fun i => ?_
  rw [pol_ofFn, Poly.c_add, pol_c, pol_c]
  split
  · exact of_addM _ _
  · have h1 : f.getD i 0 = 0 := getD_ge (by omega)
    have h2 : g.getD i 0 = 0 := getD_ge (by omega)
    rw [h1, h2, Fp.of_zero, CR.add_zero]
theorem sbL_ok (f g : List Nat) (hg : ∀ i, nth g i ≤ p) : pol p (sbL p f g) = pol p f + -pol p g ∧ Canon p (sbL p f g) := by
  refine ⟨?_, range_canon _ _ fun i => subM_lt _ _ _ (Nat.pos_of_ne_zero (NeZero.ne p))⟩
  unfold sbL
  rw [pol_trim]
  refine Poly.ext fun i => ?_
  rw [pol_ofFn, Poly.c_add, Poly.c_neg, pol_c, pol_c]
  split
  · exact of_subM _ _ (hg i)
  · have h1 : f.getD i 0 = 0 := getD_ge (by omega)
    have h2 : g.getD i 0 = 0 := getD_ge (by omega)
    rw [h1, h2, Fp.of_zero, CR.neg_zero, CR.add_zero]
theorem scL_ok (c : Nat) (f : List Nat) : pol p (scL p c f) = C (Fp.of c) * pol p f ∧ Canon p (scL p c f) := by
  refine ⟨?_, range_canon _ _ fun i => mulM_lt _ _ _ (Nat.pos_of_ne_zero (NeZero.ne p))⟩
  unfold scL
  rw [pol_trim]
  refine Poly.ext fun i => ?_
  rw [pol_ofFn, Poly.C_mul_c, pol_c]
  split
  · rw [of_mulM, CR.mul_comm]; rfl
  · have h1 : f.getD i 0 = 0 := getD_ge (by omega)
    rw [h1, Fp.of_zero, CR.mul_zero]
/-- a combination of f and g -/
structure GOk (p : Nat) [NeZero p] (f g : List Nat) (x : T3) : Prop where
  cg : Canon p x.G
  cu : Canon p x.U
  cv : Canon p x.V
  comb : pol p x.U * pol p f + pol p x.V * pol p g = pol p x.G
theorem canon_le {l : List Nat} (h : Canon p l) (i : Nat) : nth l i ≤ p := Nat.le_of_lt (nth_lt h i)
theorem GOk.step (hp : IsPr p) {f g : List Nat} {x y : T3} (hx : GOk p f g x) (hy : GOk p f g y) (h0 : y.G ≠ []) :
    GOk p f g (gstep p x y) ∧ (gstep p x y).G.length < y.G.length ∧ pol p (gstep p x y).G = pol p x.G + -(pol p (trim (divL p x.G y.G).1) * pol p y.G) := by
  obtain ⟨h1, h2, h3, h4⟩ := divL_ok hp x.G y.G hx.cg hy.cg h0
  have m1 := mulL_ok (p := p) (trim (divL p x.G y.G).1) y.U
  have m2 := mulL_ok (p := p) (trim (divL p x.G y.G).1) y.V
  have s1 := sbL_ok (p := p) x.U _ (fun i => canon_le m1.2 i)
  have s2 := sbL_ok (p := p) x.V _ (fun i => canon_le m2.2 i)
  have e : pol p (trim (divL p x.G y.G).2) = pol p x.G + -(pol p (trim (divL p x.G y.G).1) * pol p y.G) := by
    rw [← h1, CR.add_comm (pol p (trim (divL p x.G y.G).1) * pol p y.G), CR.add_assoc, CR.add_neg, CR.add_zero]
  refine ⟨⟨h3, s1.2, s2.2, ?_⟩, h4, e⟩
  show pol p (sbL _ _ _) * _ + pol p (sbL _ _ _) * _ = pol p (trim (divL p x.G y.G).2)
  rw [e, s1.1, s2.1, m1.1, m2.1, ← hx.comb, ← hy.comb]
  generalize pol p (trim (divL p x.G y.G).1) = q
  rw [CR.add_mul, CR.add_mul, CR.mul_add, CR.neg_mul, CR.neg_mul, CR.neg_add_eq, CR.mul_assoc, CR.mul_assoc]
  ac_rfl
theorem gloop_ok (hp : IsPr p) (f g : List Nat) : ∀ k (x y : T3), y.G.length < k → GOk p f g x → GOk p f g y → (∀ d, Poly.Dv d (pol p x.G) → Poly.Dv d (pol p y.G) → Poly.Dv d (pol p f) ∧ Poly.Dv d (pol p g)) →
    GOk p f g (gloop p k x y) ∧ Poly.Dv (pol p (gloop p k x y).G) (pol p f) ∧ Poly.Dv (pol p (gloop p k x y).G) (pol p g)
  | 0, _, _, h, _, _, _ => absurd h (Nat.not_lt_zero _)
  | k + 1, x, y, h, hx, hy, hd => by
    unfold gloop
    split
    · rename_i h0
      refine ⟨hx, hd _ (Dv.refl _) ?_⟩
      rw [h0, pol_nil]
      exact Dv.zero _
    · rename_i h0
      obtain ⟨h1, h2, h3⟩ := GOk.step hp hx hy h0
      refine gloop_ok hp f g k y (gstep p x y) (by omega) hy h1 fun d d1 d2 => hd d ?_ d1
      rw [h3] at d2
      have := d2.add (d1.mul_left (pol p (trim (divL p x.G y.G).1)))
      rw [CR.add_assoc, CR.add_comm (-_), CR.add_neg, CR.add_zero] at this
      exact this
theorem gcd0_ok (hp : IsPr p) (f g : List Nat) (hf : Canon p f) (hg : Canon p g) :
    GOk p f g (gcd0 p f g) ∧ Poly.Dv (pol p (gcd0 p f g).G) (pol p f) ∧ Poly.Dv (pol p (gcd0 p f g).G) (pol p g) := by
  have h1 := pol_one (p := p) hp.1
  refine gloop_ok hp f g _ _ _ (Nat.lt_succ_self _) ⟨hf, h1.2, canon_nil, ?_⟩ ⟨hg, canon_nil, h1.2, ?_⟩ fun d a b => ⟨a, b⟩
  · rw [h1.1, pol_nil, CR.one_mul, CR.zero_mul, CR.add_zero]
  · rw [h1.1, pol_nil, CR.one_mul, CR.zero_mul, CR.zero_add]
theorem inv_lead (hp : IsPr p) {f : List Nat} (hf : Canon p f) (h0 : f ≠ []) : (Fp.of (powM p (nth f (f.length - 1)) (p - 2)) : Fp p) * Fp.of (nth f (f.length - 1)) = 1 := by
  have hl : nth f (f.length - 1) ≠ 0 := by
    rcases hf.top with h | h
    · exact absurd h h0
    · exact h
  have hne : (Fp.of (nth f (f.length - 1)) : Fp p) ≠ 0 := fun h => by
    have h1 := Fp.of_eq_zero.1 h
    have h2 := nth_lt hf (f.length - 1)
    have := Nat.le_of_dvd (by omega) h1
    omega
  rw [of_powM]; exact Fp.inv_mul hp hne
theorem gfin_ok (hp : IsPr p) (f g : List Nat) (x : T3) (hx : GOk p f g x) (h1 : Poly.Dv (pol p x.G) (pol p f)) (h2 : Poly.Dv (pol p x.G) (pol p g)) :
    GOk p f g (gfin p x) ∧ Poly.Dv (pol p (gfin p x).G) (pol p f) ∧ Poly.Dv (pol p (gfin p x).G) (pol p g) ∧ (pol p (gfin p x).G = 0 ∨ (pol p (gfin p x).G).Monic) := by
  haveI := Fp.isFd hp
  unfold gfin
  split
  · rename_i h0
    refine ⟨hx, h1, h2, Or.inl ?_⟩
    rw [h0, pol_nil]
  · rename_i h0
    have hi := inv_lead hp hx.cg h0
    generalize powM p (nth x.G (x.G.length - 1)) (p - 2) = c at *
    have hc : (Fp.of c : Fp p) ≠ 0 := fun h => Fp.one_ne_zero hp (by rw [← hi, h, CR.zero_mul])
    have a1 := scL_ok (p := p) c x.G
    have a2 := scL_ok (p := p) c x.U
    have a3 := scL_ok (p := p) c x.V
    have d : Dv (pol p (scL p c x.G)) (pol p x.G) := by rw [a1.1]; exact dv_C_mul hc _
    refine ⟨⟨a1.2, a2.2, a3.2, ?_⟩, d.trans h1, d.trans h2, Or.inr ?_⟩
    · show pol p (scL p c x.U) * _ + pol p (scL p c x.V) * _ = pol p (scL p c x.G)
      rw [a1.1, a2.1, a3.1, ← hx.comb, CR.mul_add]
      ac_rfl
    · show (pol p (scL p c x.G)).lead = 1
      rw [a1.1, lead_mul (C_ne hc) (pol_ne hx.cg h0), lead_C hc, pol_lead hx.cg]
      exact hi
theorem gcdL_ok (hp : IsPr p) (f g : List Nat) (hf : Canon p f) (hg : Canon p g) :
    GOk p f g (gcdL p f g) ∧ Poly.Dv (pol p (gcdL p f g).G) (pol p f) ∧ Poly.Dv (pol p (gcdL p f g).G) (pol p g) ∧ (pol p (gcdL p f g).G = 0 ∨ (pol p (gcdL p f g).G).Monic) :=
  have h := gcd0_ok hp f g hf hg
  gfin_ok hp f g _ h.1 h.2.1 h.2.2
/-- how the loop stands -/
def GInv (p : Nat) [NeZero p] (f g : List Nat) (N : Nat) (x y : T3) : Prop :=
  ∃ k, gloop p k x y = gcd0 p f g ∧ y.G.length < k ∧ GOk p f g x ∧ GOk p f g y ∧ GLen N x y
theorem GInv.start (hp : IsPr p) (f g : List Nat) (hf : Canon p f) (hg : Canon p g) (N : Nat) (hN : f.length + g.length + 1 ≤ N) : GInv p f g N ⟨f, [1], []⟩ ⟨g, [], [1]⟩ := by
  have h1 := pol_one (p := p) hp.1
  refine ⟨g.length + 1, rfl, Nat.lt_succ_self _, ⟨hf, h1.2, canon_nil, ?_⟩, ⟨hg, canon_nil, h1.2, ?_⟩, ?_⟩
  · rw [h1.1, pol_nil, CR.one_mul, CR.zero_mul, CR.add_zero]
  · rw [h1.1, pol_nil, CR.one_mul, CR.zero_mul, CR.zero_add]
  · refine ⟨?_, ?_, ?_, ?_, ?_, ?_⟩ <;> simp <;> omega
theorem GInv.step (hp : IsPr p) {f g : List Nat} {N : Nat} {x y : T3} (h : GInv p f g N x y) (h0 : y.G ≠ []) : GInv p f g N y (gstep p x y) ∧ (gstep p x y).G.length < y.G.length := by
  obtain ⟨k, h1, h2, h3, h4, h5⟩ := h
  obtain ⟨g1, g2, _⟩ := GOk.step hp h3 h4 h0
  match k, h1, h2 with
  | k + 1, h1, h2 =>
    unfold gloop at h1
    rw [if_neg h0] at h1
    exact ⟨⟨k, h1, by omega, h4, g1, h5.step h0⟩, g2⟩
theorem GInv.stop {f g : List Nat} {N : Nat} {x y : T3} (h : GInv p f g N x y) (h0 : y.G = []) : x = gcd0 p f g ∧ GOk p f g x ∧ GLen N x y := by
  obtain ⟨k, h1, h2, h3, h4, h5⟩ := h
  match k, h1, h2 with
  | k + 1, h1, h2 =>
    unfold gloop at h1
    rw [if_pos h0] at h1
    exact ⟨h1, h3, h5⟩
theorem GInv.ok {f g : List Nat} {N : Nat} {x y : T3} (h : GInv p f g N x y) : GOk p f g x ∧ GOk p f g y ∧ GLen N x y := by
  obtain ⟨k, h1, h2, h3, h4, h5⟩ := h
  exact ⟨h3, h4, h5⟩
end
end Alg
