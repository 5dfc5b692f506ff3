/- The division: quotient and rest make the polynomial again; the rest's degree is below the divisor's. The gcd of two lists of coefficients, step by step; its cofactors; its laws. Boxes whose cells are stored anew. One boxed variable: its cells; a polynomial with its cofactors in a box. -/
import Derived.Test.YtbnjmeeaaieicaaDoorW13
import Derived.Test.YtbnjmeeaaieicaaDoorE2
section
namespace Alg
open Poly
section
variable {p : Nat} [NeZero p]
theorem of_powM (a n : Nat) : (Fp.of (powM p a n) : Fp p) = CR.pw (Fp.of a) n := by rw [powM, Fp.of_mod, Fp.of_pow]
theorem divStep (hp : IsPr p) (f g : List Nat) (inv : Nat) (hf : Canon p f) (hg : Canon p g) (hg0 : g ≠ []) (m : Nat) (hm : m + g.length = f.length + 1)
    (hinv : (Fp.of inv : Fp p) * Fp.of (nth g (g.length - 1)) = 1) : ∀ j, j ≤ m →
    pol p (stepsD p inv g m f j).1 * pol p g + pol p (stepsD p inv g m f j).2 = pol p f ∧ (∀ i, i < m - j → nth (stepsD p inv g m f j).1 i = 0) ∧ (pol p (stepsD p inv g m f j).2).bd (m - j + g.length - 1)
  | 0, _ => by
    refine ⟨?_, fun i _ => ?_, ?_⟩
    · show pol p (List.replicate m 0) * pol p g + pol p f = pol p f
      rw [pol_replicate, CR.zero_mul, CR.zero_add]
    · show (List.replicate m 0).getD i 0 = 0
      rw [List.getD_eq_getElem?_getD, List.getElem?_replicate]; split <;> rfl
    · show (pol p f).bd _
      rw [show m - 0 + g.length - 1 = f.length by omega]; exact pol_bd f
  | j + 1, hj => by
    obtain ⟨hE, hZ, hB⟩ := divStep hp f g inv hf hg hg0 m hm hinv j (by omega)
    obtain ⟨l1, l2⟩ := stepsD_len p inv g m f j
    have gl0 : 0 < g.length := List.length_pos_iff.2 hg0
    obtain ⟨Q, R, hS⟩ : ∃ Q R, stepsD p inv g m f j = (Q, R) := ⟨_, _, rfl⟩
    obtain ⟨k, hk⟩ : ∃ k, k + 1 + j = m := ⟨m - (j + 1), by omega⟩
    rw [stepsD_step p inv g m f j k g.length Q R hS hk rfl]
    rw [hS] at hE hZ hB l1 l2
    simp only at hE hZ hB l1 l2 ⊢
    obtain ⟨c, hc⟩ : ∃ c, c = mulM p (nth R (k + g.length - 1)) inv := ⟨_, rfl⟩
    rw [← hc]
    have hR : pol p (innerD p c k g R g.length) = pol p R + -(C (Fp.of c) * X k * pol p g) := by
      rw [pol_innerD c k g R (fun i => nth_lt hg i) _ (Nat.le_refl _) (by omega), pol_take_all g (Nat.le_refl _)]
    have hQ : pol p (Q.set k c) = pol p Q + C (Fp.of c) * X k := by
      rw [pol_set _ _ (by omega)]
      have h0 : Q.getD k 0 = 0 := hZ k (by omega)
      rw [h0, Fp.of_zero, CR.neg_zero, CR.add_zero]
    refine ⟨?_, fun i hi => ?_, ?_⟩
    · rw [hR, hQ, CR.add_mul, ← hE]
      have : pol p Q * pol p g + C (Fp.of c) * X k * pol p g + (pol p R + -(C (Fp.of c) * X k * pol p g)) = pol p Q * pol p g + pol p R + (C (Fp.of c) * X k * pol p g + -(C (Fp.of c) * X k * pol p g)) := by ac_rfl
      rw [this, CR.add_neg, CR.add_zero]
    · rw [nth_set, if_neg (by omega)]
      exact hZ i (by omega)
    · rw [show m - (j + 1) + g.length - 1 = k + g.length - 1 by omega]
      rw [show m - j + g.length - 1 = k + g.length - 1 + 1 by omega] at hB
      have hXG : (C (Fp.of c) * X k * pol p g).bd (k + g.length - 1 + 1) := by
        intro i hi
        show (C (Fp.of c) * X k * pol p g).c i = 0
        rw [CR.mul_assoc, C_mul_c, X_mul_c]
        split
        · have h0 : (pol p g).c (i - k) = 0 := pol_bd g (i - k) (by omega)
          rw [h0, CR.mul_zero]
        · rw [CR.mul_zero]
      refine bd.last (n := k + g.length - 1) ?_ ?_
      · rw [hR]; exact hB.add hXG.neg
      · rw [hR, c_add, c_neg, CR.mul_assoc, C_mul_c, X_mul_c, if_pos (by omega), show k + g.length - 1 - k = g.length - 1 by omega, pol_c, pol_c, hc, of_mulM, CR.mul_assoc]
        show Fp.of (nth R _) + -(Fp.of (nth R _) * (Fp.of inv * Fp.of (nth g _))) = 0
        rw [hinv, CR.mul_one, CR.add_neg]
theorem divL_ok (hp : IsPr p) (f g : List Nat) (hf : Canon p f) (hg : Canon p g) (hg0 : g ≠ []) :
    pol p (trim (divL p f g).1) * pol p g + pol p (trim (divL p f g).2) = pol p f ∧ Canon p (trim (divL p f g).1) ∧ Canon p (trim (divL p f g).2) ∧ (trim (divL p f g).2).length < g.length := by
  have gl0 : 0 < g.length := List.length_pos_iff.2 hg0
  have hpp : 0 < p := Nat.pos_of_ne_zero (NeZero.ne p)
  have hl : nth g (g.length - 1) ≠ 0 := by
    rcases hg.top with h | h
    · exact absurd h hg0
    · exact h
  have hne : (Fp.of (nth g (g.length - 1)) : Fp p) ≠ 0 := fun h => by
    have h1 := Fp.of_eq_zero.1 h
    have h2 := nth_lt hg (g.length - 1)
    have := Nat.le_of_dvd (by omega) h1
    omega
  have hinv : (Fp.of (powM p (nth g (g.length - 1)) (p - 2)) : Fp p) * Fp.of (nth g (g.length - 1)) = 1 := by
    rw [of_powM]; exact Fp.inv_mul hp hne
  have hlt := stepsD_lt p (powM p (nth g (g.length - 1)) (p - 2)) g (divN f g) f hpp (fun i => nth_lt hf i) (divN f g)
  have mem : ∀ l : List Nat, (∀ i, nth l i < p) → ∀ c, c ∈ l → c < p := fun l h c hc => by
    obtain ⟨i, hi, rfl⟩ := List.mem_iff_getElem.1 hc
    have := h i
    rwa [nth, List.getD_eq_getElem?_getD, List.getElem?_eq_getElem hi] at this
  have hQc : Canon p (trim (divL p f g).1) := Canon.trim (mem _ fun i => (hlt i).1)
  have hRc : Canon p (trim (divL p f g).2) := Canon.trim (mem _ fun i => (hlt i).2)
  refine ⟨?_, hQc, hRc, ?_⟩
  · rw [pol_trim, pol_trim]
    by_cases h : f.length < g.length
    · have e : divN f g = 0 := by unfold divN; omega
      unfold divL
      rw [e]
      show pol p (List.replicate 0 0) * _ + pol p f = _
      rw [pol_replicate, CR.zero_mul, CR.zero_add]
    · exact (divStep hp f g _ hf hg hg0 (divN f g) (by unfold divN; omega) hinv _ (Nat.le_refl _)).1
  · by_cases h : f.length < g.length
    · have e : divN f g = 0 := by unfold divN; omega
      have : (trim (divL p f g).2).length ≤ f.length := by
        refine Nat.le_trans (trim_len _) ?_
        unfold divL
        rw [e]
        exact Nat.le_refl _
      omega
    · have hB := (divStep hp f g _ hf hg hg0 (divN f g) (by unfold divN; omega) hinv _ (Nat.le_refl _)).2.2
      have h2 := len_le hB
      rw [← pol_trim] at h2
      have h3 := pol_len hRc
      have h4 : (pol p (trim (divL p f g).2)).len ≤ divN f g - divN f g + g.length - 1 := h2
      rw [h3] at h4
      omega
end
end Alg
end
section
open Alg
namespace Alg
open Poly
def addL (p : Nat) (f g : List Nat) : List Nat := trim ((List.range (max f.length g.length)).map fun i => addM p (nth f i) (nth g i))
def sbL (p : Nat) (f g : List Nat) : List Nat := trim ((List.range (max f.length g.length)).map fun i => subM p (nth f i) (nth g i))
def scL (p c : Nat) (f : List Nat) : List Nat := trim ((List.range f.length).map fun i => mulM p (nth f i) c)
/-- one with its cofactors -/
structure T3 where
  G : List Nat
  U : List Nat
  V : List Nat
def gstep (p : Nat) (x y : T3) : T3 :=
  ⟨trim (divL p x.G y.G).2, sbL p x.U (mulL p (trim (divL p x.G y.G).1) y.U), sbL p x.V (mulL p (trim (divL p x.G y.G).1) y.V)⟩
def gloop (p : Nat) : Nat → T3 → T3 → T3
  | 0, x, _ => x
  | k + 1, x, y => if y.G = [] then x else gloop p k y (gstep p x y)
def gfin (p : Nat) (x : T3) : T3 :=
  if x.G = [] then x else ⟨scL p (powM p (nth x.G (x.G.length - 1)) (p - 2)) x.G, scL p (powM p (nth x.G (x.G.length - 1)) (p - 2)) x.U, scL p (powM p (nth x.G (x.G.length - 1)) (p - 2)) x.V⟩
def gcd0 (p : Nat) (f g : List Nat) : T3 := gloop p (g.length + 1) ⟨f, [1], []⟩ ⟨g, [], [1]⟩
def gcdL (p : Nat) (f g : List Nat) : T3 := gfin p (gcd0 p f g)
theorem range_le {F : Nat → Nat} {n N : Nat} (h : n ≤ N) : (trim ((List.range n).map F)).length ≤ N := by
  have := trim_len ((List.range n).map F)
  simp only [List.length_map, List.length_range] at this
  omega
theorem sbL_len (p : Nat) (f g : List Nat) : (sbL p f g).length ≤ max f.length g.length := range_le (Nat.le_refl _)
theorem addL_len (p : Nat) (f g : List Nat) : (addL p f g).length ≤ max f.length g.length := range_le (Nat.le_refl _)
theorem scL_len (p c : Nat) (f : List Nat) : (scL p c f).length ≤ f.length := range_le (Nat.le_refl _)
theorem mulL_len2 (p : Nat) (f g : List Nat) : (mulL p f g).length + 1 ≤ f.length + g.length ∨ mulL p f g = [] := by
  unfold mulL
  split
  · exact Or.inr rfl
  · left
    have := trim_len (outerM p f g (f.length + g.length - 1) f.length)
    rw [outerM_len] at this
    omega
theorem divQ_len (p : Nat) (f g : List Nat) : (trim (divL p f g).1).length ≤ f.length + 1 - g.length := by
  refine Nat.le_trans (trim_len _) ?_
  unfold divL
  rw [(stepsD_len _ _ _ _ _ _).1]
  exact Nat.le_refl _
theorem divR_len (p : Nat) (f g : List Nat) : (trim (divL p f g).2).length ≤ f.length := by
  refine Nat.le_trans (trim_len _) ?_
  unfold divL
  rw [(stepsD_len _ _ _ _ _ _).2]
  exact Nat.le_refl _
/-- the cofactors stay short -/
structure GLen (N : Nat) (x y : T3) : Prop where
  a : x.U.length + y.G.length ≤ N
  b : y.U.length + x.G.length ≤ N
  c : x.V.length + y.G.length ≤ N
  d : y.V.length + x.G.length ≤ N
  e : y.U.length ≤ N
  f : y.V.length ≤ N
theorem cof_len (p : Nat) (x y : T3) (u v : List Nat) {N : Nat} (_hy : 0 < y.G.length) (ha : u.length + y.G.length ≤ N) (hb : v.length + x.G.length ≤ N) :
    (sbL p u (mulL p (trim (divL p x.G y.G).1) v)).length + y.G.length ≤ N := by
  have h1 := sbL_len p u (mulL p (trim (divL p x.G y.G).1) v)
  have h2 := divQ_len p x.G y.G
  rcases mulL_len2 p (trim (divL p x.G y.G).1) v with h3 | h3
  · have h4 := Nat.max_le.2 ⟨(show u.length ≤ N - y.G.length by omega), (show (mulL p (trim (divL p x.G y.G).1) v).length ≤ N - y.G.length by
      by_cases h5 : trim (divL p x.G y.G).1 = []
      · rw [h5]; unfold mulL; simp
      · have := List.length_pos_iff.2 h5; omega)⟩
    omega
  · rw [h3] at h1 ⊢
    simp at h1
    omega
theorem GLen.step {p N : Nat} {x y : T3} (h : GLen N x y) (hy : y.G ≠ []) : GLen N y (gstep p x y) := by
  have h1 := divR_len p x.G y.G
  have h2 := List.length_pos_iff.2 hy
  have h3 := cof_len p x y x.U y.U h2 h.a h.b
  have h4 := cof_len p x y x.V y.V h2 h.c h.d
  have h5 := h.b
  have h6 := h.d
  exact ⟨by show _ + (trim (divL p x.G y.G).2).length ≤ N; omega, h3, by show _ + (trim (divL p x.G y.G).2).length ≤ N; omega, h4, by show (sbL _ _ _).length ≤ N; omega, by show (sbL _ _ _).length ≤ N; omega⟩
section
variable {p : Nat} [NeZero p]
omit [NeZero p] in
theorem range_canon (F : Nat → Nat) (n : Nat) (h : ∀ i, F i < p) : Canon p (trim ((List.range n).map F)) :=
  Canon.trim fun c hc => by
    obtain ⟨i, _, rfl⟩ := List.mem_map.1 hc
    exact h i
theorem addL_ok' (f g : List Nat) : pol p (addL p f g) = pol p f + pol p g ∧ Canon p (addL p f g) := by
  refine ⟨?_, range_canon _ _ fun i => addM_lt _ _ _ (Nat.pos_of_ne_zero (NeZero.ne p))⟩
  unfold addL
  rw [pol_trim]
  refine Poly.ext fun i => ?_
  rw [pol_ofFn, Poly.c_add, pol_c, pol_c]
  split
  · exact of_addM _ _
  · have h1 : f.getD i 0 = 0 := getD_ge (by omega)
    have h2 : g.getD i 0 = 0 := getD_ge (by omega)
    rw [h1, h2, Fp.of_zero, CR.add_zero]
theorem sbL_ok (f g : List Nat) (hg : ∀ i, nth g i ≤ p) : pol p (sbL p f g) = pol p f + -pol p g ∧ Canon p (sbL p f g) := by
  refine ⟨?_, range_canon _ _ fun i => subM_lt _ _ _ (Nat.pos_of_ne_zero (NeZero.ne p))⟩
  unfold sbL
  rw [pol_trim]
  refine Poly.ext fun i => ?_
  rw [pol_ofFn, Poly.c_add, Poly.c_neg, pol_c, pol_c]
  split
  · exact of_subM _ _ (hg i)
  · have h1 : f.getD i 0 = 0 := getD_ge (by omega)
    have h2 : g.getD i 0 = 0 := getD_ge (by omega)
    rw [h1, h2, Fp.of_zero, CR.neg_zero, CR.add_zero]
theorem scL_ok (c : Nat) (f : List Nat) : pol p (scL p c f) = C (Fp.of c) * pol p f ∧ Canon p (scL p c f) := by
  refine ⟨?_, range_canon _ _ fun i => mulM_lt _ _ _ (Nat.pos_of_ne_zero (NeZero.ne p))⟩
  unfold scL
  rw [pol_trim]
  refine Poly.ext fun i => ?_
  rw [pol_ofFn, Poly.C_mul_c, pol_c]
  split
  · rw [of_mulM, CR.mul_comm]; rfl
  · have h1 : f.getD i 0 = 0 := getD_ge (by omega)
    rw [h1, Fp.of_zero, CR.mul_zero]
/-- a combination of f and g -/
structure GOk (p : Nat) [NeZero p] (f g : List Nat) (x : T3) : Prop where
  cg : Canon p x.G
  cu : Canon p x.U
  cv : Canon p x.V
  comb : pol p x.U * pol p f + pol p x.V * pol p g = pol p x.G
theorem canon_le {l : List Nat} (h : Canon p l) (i : Nat) : nth l i ≤ p := Nat.le_of_lt (nth_lt h i)
theorem GOk.step (hp : IsPr p) {f g : List Nat} {x y : T3} (hx : GOk p f g x) (hy : GOk p f g y) (h0 : y.G ≠ []) :
    GOk p f g (gstep p x y) ∧ (gstep p x y).G.length < y.G.length ∧ pol p (gstep p x y).G = pol p x.G + -(pol p (trim (divL p x.G y.G).1) * pol p y.G) := by
  obtain ⟨h1, h2, h3, h4⟩ := divL_ok hp x.G y.G hx.cg hy.cg h0
  have m1 := mulL_ok (p := p) (trim (divL p x.G y.G).1) y.U
  have m2 := mulL_ok (p := p) (trim (divL p x.G y.G).1) y.V
  have s1 := sbL_ok (p := p) x.U _ (fun i => canon_le m1.2 i)
  have s2 := sbL_ok (p := p) x.V _ (fun i => canon_le m2.2 i)
  have e : pol p (trim (divL p x.G y.G).2) = pol p x.G + -(pol p (trim (divL p x.G y.G).1) * pol p y.G) := by
    rw [← h1, CR.add_comm (pol p (trim (divL p x.G y.G).1) * pol p y.G), CR.add_assoc, CR.add_neg, CR.add_zero]
  refine ⟨⟨h3, s1.2, s2.2, ?_⟩, h4, e⟩
  show pol p (sbL _ _ _) * _ + pol p (sbL _ _ _) * _ = pol p (trim (divL p x.G y.G).2)
  rw [e, s1.1, s2.1, m1.1, m2.1, ← hx.comb, ← hy.comb]
  generalize pol p (trim (divL p x.G y.G).1) = q
  rw [CR.add_mul, CR.add_mul, CR.mul_add, CR.neg_mul, CR.neg_mul, CR.neg_add_eq, CR.mul_assoc, CR.mul_assoc]
  ac_rfl
theorem gloop_ok (hp : IsPr p) (f g : List Nat) : ∀ k (x y : T3), y.G.length < k → GOk p f g x → GOk p f g y → (∀ d, Poly.Dv d (pol p x.G) → Poly.Dv d (pol p y.G) → Poly.Dv d (pol p f) ∧ Poly.Dv d (pol p g)) →
    GOk p f g (gloop p k x y) ∧ Poly.Dv (pol p (gloop p k x y).G) (pol p f) ∧ Poly.Dv (pol p (gloop p k x y).G) (pol p g)
  | 0, _, _, h, _, _, _ => absurd h (Nat.not_lt_zero _)
  | k + 1, x, y, h, hx, hy, hd => by
    unfold gloop
    split
    · rename_i h0
      refine ⟨hx, hd _ (Dv.refl _) ?_⟩
      rw [h0, pol_nil]
      exact Dv.zero _
    · rename_i h0
      obtain ⟨h1, h2, h3⟩ := GOk.step hp hx hy h0
      refine gloop_ok hp f g k y (gstep p x y) (by omega) hy h1 fun d d1 d2 => hd d ?_ d1
      rw [h3] at d2
      have := d2.add (d1.mul_left (pol p (trim (divL p x.G y.G).1)))
      rw [CR.add_assoc, CR.add_comm (-_), CR.add_neg, CR.add_zero] at this
      exact this
theorem gcd0_ok (hp : IsPr p) (f g : List Nat) (hf : Canon p f) (hg : Canon p g) :
    GOk p f g (gcd0 p f g) ∧ Poly.Dv (pol p (gcd0 p f g).G) (pol p f) ∧ Poly.Dv (pol p (gcd0 p f g).G) (pol p g) := by
  have h1 := pol_one (p := p) hp.1
  refine gloop_ok hp f g _ _ _ (Nat.lt_succ_self _) ⟨hf, h1.2, canon_nil, ?_⟩ ⟨hg, canon_nil, h1.2, ?_⟩ fun d a b => ⟨a, b⟩
  · rw [h1.1, pol_nil, CR.one_mul, CR.zero_mul, CR.add_zero]
  · rw [h1.1, pol_nil, CR.one_mul, CR.zero_mul, CR.zero_add]
theorem inv_lead (hp : IsPr p) {f : List Nat} (hf : Canon p f) (h0 : f ≠ []) : (Fp.of (powM p (nth f (f.length - 1)) (p - 2)) : Fp p) * Fp.of (nth f (f.length - 1)) = 1 := by
  have hl : nth f (f.length - 1) ≠ 0 := by
    rcases hf.top with h | h
    · exact absurd h h0
    · exact h
  have hne : (Fp.of (nth f (f.length - 1)) : Fp p) ≠ 0 := fun h => by
    have h1 := Fp.of_eq_zero.1 h
    have h2 := nth_lt hf (f.length - 1)
    have := Nat.le_of_dvd (by omega) h1
    omega
  rw [of_powM]; exact Fp.inv_mul hp hne
theorem gfin_ok (hp : IsPr p) (f g : List Nat) (x : T3) (hx : GOk p f g x) (h1 : Poly.Dv (pol p x.G) (pol p f)) (h2 : Poly.Dv (pol p x.G) (pol p g)) :
    GOk p f g (gfin p x) ∧ Poly.Dv (pol p (gfin p x).G) (pol p f) ∧ Poly.Dv (pol p (gfin p x).G) (pol p g) ∧ (pol p (gfin p x).G = 0 ∨ (pol p (gfin p x).G).Monic) := by
  haveI := Fp.isFd hp
  unfold gfin
  split
  · rename_i h0
    refine ⟨hx, h1, h2, Or.inl ?_⟩
    rw [h0, pol_nil]
  · rename_i h0
    have hi := inv_lead hp hx.cg h0
    generalize powM p (nth x.G (x.G.length - 1)) (p - 2) = c at *
    have hc : (Fp.of c : Fp p) ≠ 0 := fun h => Fp.one_ne_zero hp (by rw [← hi, h, CR.zero_mul])
    have a1 := scL_ok (p := p) c x.G
    have a2 := scL_ok (p := p) c x.U
    have a3 := scL_ok (p := p) c x.V
    have d : Dv (pol p (scL p c x.G)) (pol p x.G) := by rw [a1.1]; exact dv_C_mul hc _
    refine ⟨⟨a1.2, a2.2, a3.2, ?_⟩, d.trans h1, d.trans h2, Or.inr ?_⟩
    · show pol p (scL p c x.U) * _ + pol p (scL p c x.V) * _ = pol p (scL p c x.G)
      rw [a1.1, a2.1, a3.1, ← hx.comb, CR.mul_add]
      ac_rfl
    · show (pol p (scL p c x.G)).lead = 1
      rw [a1.1, lead_mul (C_ne hc) (pol_ne hx.cg h0), lead_C hc, pol_lead hx.cg]
      exact hi
theorem gcdL_ok (hp : IsPr p) (f g : List Nat) (hf : Canon p f) (hg : Canon p g) :
    GOk p f g (gcdL p f g) ∧ Poly.Dv (pol p (gcdL p f g).G) (pol p f) ∧ Poly.Dv (pol p (gcdL p f g).G) (pol p g) ∧ (pol p (gcdL p f g).G = 0 ∨ (pol p (gcdL p f g).G).Monic) :=
  have h := gcd0_ok hp f g hf hg
  gfin_ok hp f g _ h.1 h.2.1 h.2.2
/-- how the loop stands -/
def GInv (p : Nat) [NeZero p] (f g : List Nat) (N : Nat) (x y : T3) : Prop :=
  ∃ k, gloop p k x y = gcd0 p f g ∧ y.G.length < k ∧ GOk p f g x ∧ GOk p f g y ∧ GLen N x y
theorem GInv.start (hp : IsPr p) (f g : List Nat) (hf : Canon p f) (hg : Canon p g) (N : Nat) (hN : f.length + g.length + 1 ≤ N) : GInv p f g N ⟨f, [1], []⟩ ⟨g, [], [1]⟩ := by
  have h1 := pol_one (p := p) hp.1
  refine ⟨g.length + 1, rfl, Nat.lt_succ_self _, ⟨hf, h1.2, canon_nil, ?_⟩, ⟨hg, canon_nil, h1.2, ?_⟩, ?_⟩
  · rw [h1.1, pol_nil, CR.one_mul, CR.zero_mul, CR.add_zero]
  · rw [h1.1, pol_nil, CR.one_mul, CR.zero_mul, CR.zero_add]
  · refine ⟨?_, ?_, ?_, ?_, ?_, ?_⟩ <;> simp <;> omega
theorem GInv.step (hp : IsPr p) {f g : List Nat} {N : Nat} {x y : T3} (h : GInv p f g N x y) (h0 : y.G ≠ []) : GInv p f g N y (gstep p x y) ∧ (gstep p x y).G.length < y.G.length := by
  obtain ⟨k, h1, h2, h3, h4, h5⟩ := h
  obtain ⟨g1, g2, _⟩ := GOk.step hp h3 h4 h0
  match k, h1, h2 with
  | k + 1, h1, h2 =>
    unfold gloop at h1
    rw [if_neg h0] at h1
    exact ⟨⟨k, h1, by omega, h4, g1, h5.step h0⟩, g2⟩
theorem GInv.stop {f g : List Nat} {N : Nat} {x y : T3} (h : GInv p f g N x y) (h0 : y.G = []) : x = gcd0 p f g ∧ GOk p f g x ∧ GLen N x y := by
  obtain ⟨k, h1, h2, h3, h4, h5⟩ := h
  match k, h1, h2 with
  | k + 1, h1, h2 =>
    unfold gloop at h1
    rw [if_pos h0] at h1
    exact ⟨h1, h3, h5⟩
theorem GInv.ok {f g : List Nat} {N : Nat} {x y : T3} (h : GInv p f g N x y) : GOk p f g x ∧ GOk p f g y ∧ GLen N x y := by
  obtain ⟨k, h1, h2, h3, h4, h5⟩ := h
  exact ⟨h3, h4, h5⟩
end
end Alg
end
section
open Alg Go Go.RowKit
namespace Alg
theorem setCell_cell (W : World) (b i : Nat) (u v : Value) (h : W.cell? ⟨b, i, none⟩ = some v) : (W.setCell ⟨b, i, none⟩ u).cell? ⟨b, i, none⟩ = some u := by
  simp [go_sem, h]
theorem setCell_off (W : World) (b i m : Nat) (u : Value) (h : m ≠ i) : (W.setCell ⟨b, i, none⟩ u).cell? ⟨b, m, none⟩ = W.cell? ⟨b, m, none⟩ := by
  simp [go_sem]
theorem Boxes.putCell {w W : World} {L : List (Array Value)} (h : Boxes w W L) {j : Nat} {cs : Array Value} (hj : L[j]? = some cs) (i : Nat) (hi : i < cs.size) (u : Value) :
    Boxes w (W.setCell ⟨w.heap.size + j, i, none⟩ u) (L.set j (cs.setIfInBounds i u)) where
  below := h.below.setCell (p := ⟨w.heap.size + j, i, none⟩) (by show w.heap.size ≤ w.heap.size + j; omega) u
  size := by
    have := h.size
    simp only [World.setCell, Array.size_modify, List.length_set]; omega
  cell' := fun k m ds v h1 h2 => by
    by_cases e : k = j
    · subst e
      have hk : k < L.length := by
        rcases Nat.lt_or_ge k L.length with h3 | h3
        · exact h3
        · rw [List.getElem?_eq_none h3] at hj; exact absurd hj (by simp)
      rw [List.getElem?_set_self hk] at h1
      have e2 : cs.setIfInBounds i u = ds := by simpa using h1
      subst e2
      by_cases em : m = i
      · subst em
        have h4 : (cs.setIfInBounds m u)[m]? = some u := by simp [hi]
        rw [h4] at h2
        have e3 : u = v := by simpa using h2
        subst e3
        exact setCell_cell W _ _ _ cs[m] (h.cell' k m cs _ hj (by simp [hi]))
      · rw [setCell_off _ _ _ _ _ em]
        have h4 : (cs.setIfInBounds i u)[m]? = cs[m]? := by
          rw [Array.getElem?_setIfInBounds_ne (fun e => em e.symm)]
        rw [h4] at h2
        exact h.cell' k m cs v hj h2
    · rw [List.getElem?_set_ne (fun e2 => e e2.symm)] at h1
      exact (World.cell?_of_block (w := W) (Below.heap_setCell W ⟨w.heap.size + j, i, none⟩ u _ (by show w.heap.size + k ≠ w.heap.size + j; omega))).trans (h.cell' k m ds v h1 h2)
  frozen' := fun k m h1 => by
    rw [List.length_set] at h1
    have h2 := h.frozen' k m h1
    rw [← h2]
    simp [go_sem]
end Alg
end
section
open Alg Go Go.RowKit
namespace Alg
/-- block b holds these cells, and may be written -/
structure Box (W : World) (b : Nat) (cs : Array Value) : Prop where
  lt : b < W.heap.size
  cell : ∀ i v, cs[i]? = some v → W.cell? ⟨b, i, none⟩ = some v
  frozen : ∀ i, W.frozen? ⟨b, i, none⟩ = false
theorem Box.new (W : World) (cs : Array Value) (T : TypeId) : Box (W.alloc (.cells cs T)) W.heap.size cs :=
  ⟨by rw [World.size_alloc]; omega, fun i v h => by rw [cell_box]; exact h, fun i => frozen_box cs T _ i rfl⟩
theorem Box.mono {W W' : World} {b : Nat} {cs : Array Value} (h : Box W b cs) (hb : Below W.heap.size W W') : Box W' b cs where
  lt := Nat.lt_of_lt_of_le h.lt hb.size
  cell := fun i v h1 => (hb.cell (p := ⟨b, i, none⟩) h.lt).trans (h.cell i v h1)
  frozen := fun i => (hb.frozen (p := ⟨b, i, none⟩) h.lt).trans (h.frozen i)
theorem Box.drew {W : World} {b : Nat} {cs : Array Value} (h : Box W b cs) : Box W.drew b cs := h.mono ⟨rfl, rfl, rfl, Nat.le_refl _, fun _ _ => rfl⟩
theorem Box.alloc {W : World} {b : Nat} {cs : Array Value} (h : Box W b cs) (o : Obj) : Box (W.alloc o) b cs := h.mono ((Below.refl _ W).alloc (Nat.le_refl _) o)
/-- a store elsewhere -/
theorem Box.other {W : World} {b : Nat} {cs : Array Value} (h : Box W b cs) {g : Nat} (i : Nat) (hne : b ≠ g) (u : Value) : Box (W.setCell ⟨g, i, none⟩ u) b cs where
  lt := by simp only [World.setCell, Array.size_modify]; exact h.lt
  cell := fun j v h1 => (World.cell?_of_block (w := W) (Below.heap_setCell W ⟨g, i, none⟩ u _ (by show b ≠ g; exact hne))).trans (h.cell j v h1)
  frozen := fun j => (World.frozen?_of_block (w := W) (Below.heap_setCell W ⟨g, i, none⟩ u _ (by show b ≠ g; exact hne))).trans (h.frozen j)
/-- a store into it -/
theorem Box.put {W : World} {b : Nat} {cs : Array Value} (h : Box W b cs) (i : Nat) (hi : i < cs.size) (u : Value) : Box (W.setCell ⟨b, i, none⟩ u) b (cs.setIfInBounds i u) where
  lt := by simp only [World.setCell, Array.size_modify]; exact h.lt
  cell := fun m v h2 => by
    by_cases em : m = i
    · subst em
      have h4 : (cs.setIfInBounds m u)[m]? = some u := by simp [hi]
      rw [h4] at h2
      have e3 : u = v := by simpa using h2
      subst e3
      exact setCell_cell W _ _ _ cs[m] (h.cell m _ (by simp [hi]))
    · rw [setCell_off _ _ _ _ _ em]
      have h4 : (cs.setIfInBounds i u)[m]? = cs[m]? := by
        rw [Array.getElem?_setIfInBounds_ne (fun e => em e.symm)]
      rw [h4] at h2
      exact h.cell m v h2
  frozen := fun m => by
    have h2 := h.frozen m
    rw [← h2]
    simp [go_sem]
theorem Box.put2 {W : World} {b : Nat} {u0 u1 : Value} (h : Box W b #[u0, u1]) (v0 v1 : Value) :
    Box ((W.setCell ⟨b, 0, none⟩ v0).setCell ⟨b, 1, none⟩ v1) b #[v0, v1] :=
  (h.put 0 (by simp) v0).put 1 (by simp) v1
theorem Box.put6 {W : World} {b : Nat} {u0 u1 u2 u3 u4 u5 : Value} (h : Box W b #[u0, u1, u2, u3, u4, u5]) (v0 v1 v2 v3 v4 v5 : Value) :
    Box ((((((W.setCell ⟨b, 0, none⟩ v0).setCell ⟨b, 1, none⟩ v1).setCell ⟨b, 2, none⟩ v2).setCell ⟨b, 3, none⟩ v3).setCell ⟨b, 4, none⟩ v4).setCell ⟨b, 5, none⟩ v5) b #[v0, v1, v2, v3, v4, v5] :=
  (((((h.put 0 (by simp) v0).put 1 (by simp) v1).put 2 (by simp) v2).put 3 (by simp) v3).put 4 (by simp) v4).put 5 (by simp) v5
/-- six stores into one block: what lies elsewhere stands -/
abbrev set6 (W : World) (b : Nat) (v0 v1 v2 v3 v4 v5 : Value) : World :=
  (((((W.setCell ⟨b, 0, none⟩ v0).setCell ⟨b, 1, none⟩ v1).setCell ⟨b, 2, none⟩ v2).setCell ⟨b, 3, none⟩ v3).setCell ⟨b, 4, none⟩ v4).setCell ⟨b, 5, none⟩ v5
theorem Box.other6 {W : World} {c : Nat} {cs : Array Value} (h : Box W c cs) {b : Nat} (hne : c ≠ b) (v0 v1 v2 v3 v4 v5 : Value) : Box (set6 W b v0 v1 v2 v3 v4 v5) c cs :=
  (((((h.other 0 hne v0).other 1 hne v1).other 2 hne v2).other 3 hne v3).other 4 hne v4).other 5 hne v5
theorem Sl.set6 {W : World} {a : Option Addr} {n cap : Nat} {l : List Nat} (h : Sl W a n cap l) {b : Nat} (ho : Off a n b) (v0 v1 v2 v3 v4 v5 : Value) : Sl (set6 W b v0 v1 v2 v3 v4 v5) a n cap l :=
  (((((h.setCell ho v0).setCell ho v1).setCell ho v2).setCell ho v3).setCell ho v4).setCell ho v5
theorem Boxes.set6 {w W : World} {L : List (Array Value)} (h : Boxes w W L) {b : Nat} (hb : w.heap.size + L.length ≤ b) (v0 v1 v2 v3 v4 v5 : Value) : Boxes w (set6 W b v0 v1 v2 v3 v4 v5) L :=
  (((((h.setCell hb v0).setCell hb v1).setCell hb v2).setCell hb v3).setCell hb v4).setCell hb v5
theorem Below.set6 {n : Nat} {w W : World} (h : Below n w W) {b : Nat} (hb : n ≤ b) (v0 v1 v2 v3 v4 v5 : Value) : Below n w (set6 W b v0 v1 v2 v3 v4 v5) :=
  (((((h.setCell (p := ⟨b, 0, none⟩) hb v0).setCell (p := ⟨b, 1, none⟩) hb v1).setCell (p := ⟨b, 2, none⟩) hb v2).setCell (p := ⟨b, 3, none⟩) hb v3).setCell (p := ⟨b, 4, none⟩) hb v4).setCell (p := ⟨b, 5, none⟩) hb v5
/-- three slices -/
structure Sl3 (W : World) (a1 : Option Addr) (n1 c1 : Nat) (a2 : Option Addr) (n2 c2 : Nat) (a3 : Option Addr) (n3 c3 : Nat) (x : T3) : Prop where
  g : Sl W a1 n1 c1 x.G
  u : Sl W a2 n2 c2 x.U
  v : Sl W a3 n3 c3 x.V
theorem Sl3.mono {W W' : World} {a1 a2 a3 : Option Addr} {n1 n2 n3 c1 c2 c3 : Nat} {x : T3} (h : Sl3 W a1 n1 c1 a2 n2 c2 a3 n3 c3 x) (hb : Below W.heap.size W W') : Sl3 W' a1 n1 c1 a2 n2 c2 a3 n3 c3 x :=
  ⟨h.g.mono hb, h.u.mono hb, h.v.mono hb⟩
theorem Sl3.set6 {W : World} {a1 a2 a3 : Option Addr} {n1 n2 n3 c1 c2 c3 : Nat} {x : T3} (h : Sl3 W a1 n1 c1 a2 n2 c2 a3 n3 c3 x) {b : Nat} (h1 : Off a1 n1 b) (h2 : Off a2 n2 b) (h3 : Off a3 n3 b) (v0 v1 v2 v3 v4 v5 : Value) :
    Sl3 (set6 W b v0 v1 v2 v3 v4 v5) a1 n1 c1 a2 n2 c2 a3 n3 c3 x := ⟨h.g.set6 h1 _ _ _ _ _ _, h.u.set6 h2 _ _ _ _ _ _, h.v.set6 h3 _ _ _ _ _ _⟩
/-- it lies in none of these blocks -/
def Offs (R : List Nat) (a : Option Addr) (n : Nat) : Prop := ∀ r, r ∈ R → Off a n r
theorem Offs.fresh {w : World} {a : Option Addr} {n : Nat} {R : List Nat} (h : Prov w [] a n) (hr : ∀ r, r ∈ R → r < w.heap.size) : Offs R a n := fun r hm => h.off0 (hr r hm)
theorem Offs.old {w : World} {a : Option Addr} {n cap : Nat} {l : List Nat} {R : List Nat} (h : Sl w a n cap l) (hr : ∀ r, r ∈ R → w.heap.size ≤ r) : Offs R a n := fun r hm => h.off (hr r hm)
theorem Offs.cons {a : Option Addr} {n r : Nat} {R : List Nat} (h : Off a n r) (hR : Offs R a n) : Offs (r :: R) a n := fun x hx => by
  rcases List.mem_cons.1 hx with rfl | hx
  · exact h
  · exact hR x hx
/-- the values of a triple in a box -/
abbrev tri (p : Nat) (a1 : Option Addr) (n1 c1 : Nat) (a2 : Option Addr) (n2 c2 : Nat) (a3 : Option Addr) (n3 c3 : Nat) : Array Value :=
  #[.int .u32 (p : Int), .slice a1 n1 c1, .int .u32 (p : Int), .slice a2 n2 c2, .int .u32 (p : Int), .slice a3 n3 c3]
theorem Box.six {W : World} {b : Nat} {u0 u1 u2 u3 u4 u5 : Value} (h : Box W b #[u0, u1, u2, u3, u4, u5]) :
    (W.cell? ⟨b, 0, none⟩ = some u0 ∧ W.cell? ⟨b, 1, none⟩ = some u1 ∧ W.cell? ⟨b, 2, none⟩ = some u2 ∧ W.cell? ⟨b, 3, none⟩ = some u3 ∧ W.cell? ⟨b, 4, none⟩ = some u4 ∧ W.cell? ⟨b, 5, none⟩ = some u5) ∧
    (W.frozen? ⟨b, 0, none⟩ = false ∧ W.frozen? ⟨b, 1, none⟩ = false ∧ W.frozen? ⟨b, 2, none⟩ = false ∧ W.frozen? ⟨b, 3, none⟩ = false ∧ W.frozen? ⟨b, 4, none⟩ = false ∧ W.frozen? ⟨b, 5, none⟩ = false) :=
  ⟨⟨h.cell 0 _ rfl, h.cell 1 _ rfl, h.cell 2 _ rfl, h.cell 3 _ rfl, h.cell 4 _ rfl, h.cell 5 _ rfl⟩, h.frozen 0, h.frozen 1, h.frozen 2, h.frozen 3, h.frozen 4, h.frozen 5⟩
theorem Box.new' (W : World) (cs : Array Value) (T : TypeId) {b : Nat} (h : b = W.heap.size) : Box (W.alloc (.cells cs T)) b cs := by subst h; exact Box.new W cs T
/-- a triple that lies in block b; its slices lie in none of the blocks R -/
def Tri (W : World) (b p : Nat) (R : List Nat) (x : T3) : Prop :=
  ∃ a1 n1 c1 a2 n2 c2 a3 n3 c3, Box W b (tri p a1 n1 c1 a2 n2 c2 a3 n3 c3) ∧ Sl3 W a1 n1 c1 a2 n2 c2 a3 n3 c3 x ∧ Offs R a1 n1 ∧ Offs R a2 n2 ∧ Offs R a3 n3
theorem Tri.of_set {W : World} {b p : Nat} {R : List Nat} {x : T3} {u0 u1 u2 u3 u4 u5 : Value} {a1 a2 a3 : Option Addr} {n1 n2 n3 c1 c2 c3 : Nat} (h : Box W b #[u0, u1, u2, u3, u4, u5]) (s : Sl3 W a1 n1 c1 a2 n2 c2 a3 n3 c3 x)
    (hb : b ∈ R) (o1 : Offs R a1 n1) (o2 : Offs R a2 n2) (o3 : Offs R a3 n3) :
    Tri (set6 W b (.int .u32 (p : Int)) (.slice a1 n1 c1) (.int .u32 (p : Int)) (.slice a2 n2 c2) (.int .u32 (p : Int)) (.slice a3 n3 c3)) b p R x :=
  ⟨a1, n1, c1, a2, n2, c2, a3, n3, c3, h.put6 _ _ _ _ _ _, s.set6 (o1 b hb) (o2 b hb) (o3 b hb) _ _ _ _ _ _, o1, o2, o3⟩
theorem Tri.of_new {W : World} {b p : Nat} {R : List Nat} {x : T3} {a1 a2 a3 : Option Addr} {n1 n2 n3 c1 c2 c3 : Nat} (T : TypeId) (hb : b = W.heap.size) (s : Sl3 W a1 n1 c1 a2 n2 c2 a3 n3 c3 x)
    (o1 : Offs R a1 n1) (o2 : Offs R a2 n2) (o3 : Offs R a3 n3) : Tri (W.alloc (.cells (tri p a1 n1 c1 a2 n2 c2 a3 n3 c3) T)) b p R x :=
  ⟨a1, n1, c1, a2, n2, c2, a3, n3, c3, Box.new' W _ T hb, s.mono ((Below.refl _ W).alloc (Nat.le_refl _) _), o1, o2, o3⟩
theorem Tri.mono {W W' : World} {b p : Nat} {R : List Nat} {x : T3} (h : Tri W b p R x) (hb : Below W.heap.size W W') : Tri W' b p R x := by
  obtain ⟨a1, n1, c1, a2, n2, c2, a3, n3, c3, h1, h2, h3⟩ := h
  exact ⟨a1, n1, c1, a2, n2, c2, a3, n3, c3, h1.mono hb, h2.mono hb, h3⟩
theorem Tri.other {W : World} {b p : Nat} {R : List Nat} {x : T3} (h : Tri W b p R x) {c : Nat} (hc : c ∈ R) (hne : b ≠ c) (v0 v1 v2 v3 v4 v5 : Value) : Tri (set6 W c v0 v1 v2 v3 v4 v5) b p R x := by
  obtain ⟨a1, n1, c1, a2, n2, c2, a3, n3, c3, h1, h2, h3, h4, h5⟩ := h
  exact ⟨a1, n1, c1, a2, n2, c2, a3, n3, c3, h1.other6 hne _ _ _ _ _ _, h2.set6 (h3 c hc) (h4 c hc) (h5 c hc) _ _ _ _ _ _, h3, h4, h5⟩
theorem Tri.lt {W : World} {b p : Nat} {R : List Nat} {x : T3} (h : Tri W b p R x) : b < W.heap.size := by
  obtain ⟨a1, n1, c1, a2, n2, c2, a3, n3, c3, h1, _⟩ := h
  exact h1.lt
theorem Tri.more {W : World} {b p r : Nat} {R : List Nat} {x : T3} (h : Tri W b p R x) (hr : W.heap.size ≤ r) : Tri W b p (r :: R) x := by
  obtain ⟨a1, n1, c1, a2, n2, c2, a3, n3, c3, h1, h2, h3, h4, h5⟩ := h
  exact ⟨a1, n1, c1, a2, n2, c2, a3, n3, c3, h1, h2, Offs.cons (h2.g.off hr) h3, Offs.cons (h2.u.off hr) h4, Offs.cons (h2.v.off hr) h5⟩
theorem size_set6 (W : World) (b : Nat) (v0 v1 v2 v3 v4 v5 : Value) : (set6 W b v0 v1 v2 v3 v4 v5).heap.size = W.heap.size := by
  simp only [World.setCell, Array.size_modify]
theorem bl1 {W w1 : World} {o : Obj} (h : Below (W.alloc o).drew.heap.size (W.alloc o).drew w1) : Below W.heap.size W w1 :=
  bl (w1 := (W.alloc o).drew) ⟨rfl, rfl, rfl, size_le_alloc _ _, fun k hk => Below.heap_alloc W o k hk⟩ h (size_le_alloc _ _)
theorem bl2 {W w1 : World} {o o' : Obj} (h : Below ((W.alloc o).alloc o').drew.heap.size ((W.alloc o).alloc o').drew w1) : Below W.heap.size W w1 :=
  bl1 (w1 := w1) (o := o) (bl (w1 := ((W.alloc o).alloc o').drew) ⟨rfl, rfl, rfl, size_le_alloc _ _, fun k hk => Below.heap_alloc (W.alloc o) o' k hk⟩ h (size_le_alloc _ _))
theorem bl0 {W w1 : World} {o : Obj} (h : Below (W.alloc o).heap.size (W.alloc o) w1) : Below W.heap.size W w1 :=
  bl (w1 := W.alloc o) ⟨rfl, rfl, rfl, size_le_alloc _ _, fun k hk => Below.heap_alloc W o k hk⟩ h (size_le_alloc _ _)
theorem bdrew {W w1 : World} (h : Below W.heap.size W w1) : Below W.heap.size W w1.drew := h.trans ⟨rfl, rfl, rfl, Nat.le_refl _, fun _ _ => rfl⟩
theorem balloc {W w1 : World} (h : Below W.heap.size W w1) (o : Obj) : Below W.heap.size W (w1.alloc o) := h.alloc h.size o
theorem btrans {W w1 w2 : World} (h : Below W.heap.size W w1) (hb : Below w1.heap.size w1 w2) : Below W.heap.size W w2 := bl h hb h.size
def lenAt (W : World) (b i : Nat) : Nat := match W.cell? ⟨b, i, none⟩ with
  | some (.slice _ n _) => n
  | _ => 0
theorem lenAt_eq {W : World} {b i : Nat} {a : Option Addr} {n c : Nat} (h : W.cell? ⟨b, i, none⟩ = some (.slice a n c)) : lenAt W b i = n := by unfold lenAt; rw [h]
theorem Tri.len {W : World} {b p : Nat} {R : List Nat} {x : T3} (h : Tri W b p R x) : lenAt W b 1 = x.G.length := by
  obtain ⟨a1, n1, c1, a2, n2, c2, a3, n3, c3, h1, h2, _⟩ := h
  rw [lenAt_eq (h1.cell 1 _ rfl), h2.g.len]
theorem Boxes.box {w W : World} {L : List (Array Value)} (h : Boxes w W L) {j : Nat} {cs : Array Value} (hj : L[j]? = some cs) : Box W (w.heap.size + j) cs :=
  have hl : j < L.length := by
    rcases Nat.lt_or_ge j L.length with h3 | h3
    · exact h3
    · rw [List.getElem?_eq_none h3] at hj; exact absurd hj (by simp)
  ⟨by have := h.size; omega, fun i v h1 => h.cell' j i cs v hj h1, fun i => h.frozen' j i hl⟩
/-- the call hands back a triple -/
def RetT (p : Nat) (x : T3) (w : World) (e : Ending) (w' : World) : Prop :=
  ∃ a1 n1 c1 a2 n2 c2 a3 n3 c3, e = .returned (.agg (tri p a1 n1 c1 a2 n2 c2 a3 n3 c3)) ∧ Sl3 w' a1 n1 c1 a2 n2 c2 a3 n3 c3 x ∧ Below w.heap.size w w'
/-- .. whose slices are new, if it isn't 0 -/
def RetTP (p : Nat) (x : T3) (w : World) (e : Ending) (w' : World) : Prop :=
  ∃ a1 n1 c1 a2 n2 c2 a3 n3 c3, e = .returned (.agg (tri p a1 n1 c1 a2 n2 c2 a3 n3 c3)) ∧ Sl3 w' a1 n1 c1 a2 n2 c2 a3 n3 c3 x ∧ Below w.heap.size w w' ∧ (x.G ≠ [] → Prov w [] a1 n1 ∧ Prov w [] a2 n2 ∧ Prov w [] a3 n3)
theorem RetTP.t {p : Nat} {x : T3} {w w' : World} {e : Ending} (h : RetTP p x w e w') : RetT p x w e w' := by
  obtain ⟨a1, n1, c1, a2, n2, c2, a3, n3, c3, h1, h2, h3, _⟩ := h
  exact ⟨a1, n1, c1, a2, n2, c2, a3, n3, c3, h1, h2, h3⟩
end Alg
end
