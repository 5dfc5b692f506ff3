/- Fixed facts of two polynomials over the field of 2: their parts, their papers. The product of the parts; what no product's paper shows. -/
import Derived.Test.YtcbhoedifgghhaaDoorA23
import Derived.Test.YtcbhoedifgghhaaDoorG2
section
open Alg
namespace Alg
open Poly
theorem pr2 : IsPr 2 := (isPr_iff 2).2 ⟨by decide, fun d h1 h2 => by
  have : d < 2 := by
    rcases Nat.lt_or_ge d 2 with h | h
    · exact h
    · have := Nat.mul_le_mul h h; omega
  omega⟩
theorem canon_41 : Canon 2 [0, 1, 0, 0, 1] := (canon_iff (n := 5) rfl (by decide)).2 ⟨fun i hi => by
  have : i = 0 ∨ i = 1 ∨ i = 2 ∨ i = 3 ∨ i = 4 := by omega
  rcases this with rfl | rfl | rfl | rfl | rfl <;> decide, Or.inr (by decide)⟩
theorem canon_111 : Canon 2 [1, 1, 1] := (canon_iff (n := 3) rfl (by decide)).2 ⟨fun i hi => by
  have : i = 0 ∨ i = 1 ∨ i = 2 := by omega
  rcases this with rfl | rfl | rfl <;> decide, Or.inr (by decide)⟩
set_option maxRecDepth 100000 in
theorem ok_41 : okParts 2 [0, 1, 0, 0, 1] := ⟨by decide +kernel, by decide +kernel⟩
set_option maxRecDepth 100000 in
theorem pts_41 : PtsN 2 [0, 1, 0, 0, 1] 2 := ⟨fun j hj => by
  match j, hj with
  | 0, _ => decide +kernel
  | 1, _ => decide +kernel, by decide +kernel⟩
set_option maxRecDepth 100000 in
theorem parts_41 : partsL 2 [0, 1, 0, 0, 1] 2 = [(2, [0, 1, 1]), (2, [1, 1, 1])] := by decide +kernel
theorem prove_111 : proveE 2 [1, 1, 1] = 0 := by
  haveI : NeZero 2 := ⟨by decide⟩
  have h : HoldsI 2 [1, 1, 1] (proveW 2 [1, 1, 1]) := irr_holdsI pr2 (by decide) canon_111 (by decide) (by decide) ((tried_iff pr2 canon_111 (by decide)).2 fun d h1 h2 i hi => by
    have : d = 1 := by simp at h2; omega
    subst this
    have : i = 0 ∨ i = 1 := by omega
    rcases this with rfl | rfl
    · decide +kernel
    · decide +kernel)
  unfold proveE
  rw [if_pos ⟨by decide, by decide⟩, if_pos (holdsIB_yes h)]
theorem prove_41 : proveE 2 [0, 1, 0, 0, 1] = 5 := by
  haveI : NeZero 2 := ⟨by decide⟩
  have h : ¬ HoldsI 2 [0, 1, 0, 0, 1] (proveW 2 [0, 1, 0, 0, 1]) := fun h => (tried_iff pr2 canon_41 (by decide)).1 h.irr 1 (by decide) (by decide) 0 (by decide) (by decide +kernel)
  unfold proveE
  rw [if_pos ⟨by decide, by decide⟩, if_neg (by rw [holdsIB_no h]; simp)]
theorem proveE_holds {p : Nat} {l : List Nat} (h : proveE p l = 0) : holdsIB p l (proveW p l) = true := by
  unfold proveE at h
  split at h
  · split at h
    · assumption
    · cases h
  · cases h
end Alg
end
section
open Alg Go Go.RowKit
namespace Alg
open Poly
/-- what Parts tells -/
def PartsP (p : Nat) (f : List Nat) (L : List (Nat × List Nat)) (err : Int) : Prop :=
  (okParts p f ∧ (∃ i, PtsN p f i ∧ L = partsL p f i) ∧ err = 0) ∨ (¬ okParts p f ∧ L = [] ∧ err = 1)
theorem PartsP.unique {p : Nat} {f : List Nat} {L L' : List (Nat × List Nat)} {err err' : Int} (h : PartsP p f L err) (k : PartsP p f L' err') : L = L' ∧ err = err' := by
  rcases h with ⟨h1, ⟨i, hi, rfl⟩, rfl⟩ | ⟨h1, rfl, rfl⟩
  · rcases k with ⟨_, ⟨j, hj, rfl⟩, rfl⟩ | ⟨k1, _⟩
    · rw [hi.unique hj]; exact ⟨rfl, rfl⟩
    · exact absurd h1 k1
  · rcases k with ⟨k1, _⟩ | ⟨_, rfl, rfl⟩
    · exact absurd k1 h1
    · exact ⟨rfl, rfl⟩
theorem RetPts.parts {p : Nat} {f : List Nat} {w : World} {e : Ending} {w' : World} (h : RetPts p f w e w') : ∃ L err, PartsP p f L err ∧ RetPL L err w e w' := by
  rcases h with ⟨h1, i, h2, h3⟩ | ⟨h1, h2⟩
  · exact ⟨_, _, Or.inl ⟨h1, ⟨i, h2, rfl⟩, rfl⟩, h3⟩
  · exact ⟨_, _, Or.inr ⟨h1, rfl, rfl⟩, h2⟩
/-- the product of the first i parts -/
def prP (p : Nat) (f : List Nat) : Nat → List Nat
  | 0 => [1]
  | i + 1 => mulL p (prP p f i) (gP p (rP p f i) (i + 1))
section
variable {p : Nat} [NeZero p]
theorem prP_ok (hp : IsPr p) {f : List Nat} (cf : Canon p f) (h : okParts p f) : ∀ i, Canon p (prP p f i) ∧ pol p (prP p f i) * pol p (rP p f i) = pol p f
  | 0 => ⟨(pol_one hp.1).2, by show pol p [1] * pol p f = _; rw [(pol_one (p := p) hp.1).1, CR.one_mul]⟩
  | i + 1 => by
    have ih := prP_ok hp cf h i
    have m := mulL_ok (p := p) (prP p f i) (gP p (rP p f i) (i + 1))
    refine ⟨m.2, ?_⟩
    show pol p (mulL p (prP p f i) (gP p (rP p f i) (i + 1))) * _ = _
    rw [m.1, ← ih.2, (h.all hp cf i).cut hp]
    ac_rfl
theorem prP_len (hp : IsPr p) {f : List Nat} (cf : Canon p f) (h : okParts p f) (i : Nat) : (prP p f i).length ≤ f.length := by
  haveI := Fp.isFd hp
  have ih := prP_ok hp cf h i
  have hd : Dv (pol p (prP p f i)) (pol p f) := ⟨_, ih.2.symm⟩
  have := hd.len_le (pol_ne cf h.mon.ne)
  rwa [pol_len ih.1, pol_len cf] at this
theorem prP_cop (hp : IsPr p) {f : List Nat} (cf : Canon p f) (h : okParts p f) (i : Nat) : (gcdL p (prP p f i) (gP p (rP p f i) (i + 1))).G.length = 1 := by
  haveI := Fp.isFd hp
  have ih := prP_ok hp cf h i
  have hs := free_sqf hp cf h.mon.ne h.2
  rw [← ih.2] at hs
  obtain ⟨u, v, hc⟩ := hs.cop hp
  obtain ⟨cg, _, ⟨q, hq⟩, _, _⟩ := (h.all hp cf i).g hp (i + 1)
  have : (gcdL p (prP p f i) (gP p (rP p f i) (i + 1))).G = [1] := (gcd_one hp ih.1 cg).2 ⟨u, v * q, by rw [hc, hq]; ac_rfl⟩
  rw [this]; rfl
omit [NeZero p] in
theorem one_of (_hp : IsPr p) {l : List Nat} (hm : MonL l) (h1 : l.length ≤ 1) : l = [1] := by
  match l, hm, h1 with
  | [], hm, _ => exact absurd hm.1 (by simp)
  | [a], hm, _ => have := hm.2; simp [nth] at this; rw [this]
  | a :: b :: l, _, h1 => simp at h1
theorem prP_done (hp : IsPr p) {f : List Nat} (cf : Canon p f) (h : okParts p f) {n : Nat} (hn : PtsN p f n) : prP p f n = f := by
  have ih := prP_ok hp cf h n
  have h1 := one_of hp (h.all hp cf n).mr hn.done
  have h2 := ih.2
  rw [h1, (pol_one (p := p) hp.1).1, CR.mul_one] at h2
  exact canon_ext ih.1 cf h2
theorem gP_last (hp : IsPr p) {f : List Nat} (cf : Canon p f) (h : okParts p f) {n : Nat} (hn : PtsN p f (n + 1)) : 1 < (gP p (rP p f n) (n + 1)).length := by
  have h1 := one_of hp (h.all hp cf (n + 1)).mr hn.done
  have hc := (h.all hp cf n).cut hp
  rw [h1, (pol_one (p := p) hp.1).1, CR.one_mul] at hc
  have := hn.more n (by omega)
  have cg := ((h.all hp cf n).g hp (n + 1)).1
  rwa [← pol_len (h.all hp cf n).cr, hc, pol_len cg] at this
theorem gP_deg (hp : IsPr p) {f : List Nat} (cf : Canon p f) (h : okParts p f) (i : Nat) : ((gP p (rP p f i) (i + 1)).length - 1) % (i + 1) = 0 ∧ 1 ≤ (gP p (rP p f i) (i + 1)).length ∧ (gP p (rP p f i) (i + 1)).length ≤ f.length := by
  haveI := Fp.isFd hp
  obtain ⟨k, hk⟩ := ((h.all hp cf i).step hp (free_sqf hp cf h.mon.ne h.2)).2
  have hg := (h.all hp cf i).g hp (i + 1)
  have hd := (hg.2.2.1.trans (h.all hp cf i).dv).len_le (pol_ne cf h.mon.ne)
  rw [pol_len hg.1, pol_len cf] at hd
  rw [hk] at hd ⊢
  refine ⟨by rw [Nat.add_sub_cancel, Nat.mul_mod_right], by omega, hd⟩
theorem PtsN.short (hp : IsPr p) {f : List Nat} (cf : Canon p f) (h : okParts p f) {n : Nat} (hn : PtsN p f n) : n < f.length := by
  rcases Nat.eq_zero_or_pos n with h0 | h0
  · have := h.mon.1; omega
  · have := (h.all hp cf (n - 1)).short hp cf h.mon (hn.more (n - 1) (by omega)); omega
/-- no product has a paper -/
theorem never_prove (hp : IsPr p) {f g : List Nat} (cf : Canon p f) (cg : Canon p g) (hf : 2 ≤ f.length) (hg : 2 ≤ g.length) :
    proveE p (mnL p (mulL p f g)) = 5 ∧ (∀ W, holdsIB p (mnL p (mulL p f g)) W = false) ∧ Canon p (mnL p (mulL p f g)) ∧ (mnL p (mulL p f g)).length ≤ f.length + g.length := by
  haveI := Fp.isFd hp
  have m1 := mulL_ok (p := p) f g
  have m2 := mnL_ok hp m1.2
  have F0 := pol_ne cf (fun e => by rw [e] at hf; simp at hf)
  have G0 := pol_ne cg (fun e => by rw [e] at hg; simp at hg)
  have hl := len_mul F0 G0
  rw [pol_len cf, pol_len cg] at hl
  have n0 : pol p (mulL p f g) ≠ 0 := by rw [m1.1]; exact mul_ne F0 G0
  have M0 : pol p (mnL p (mulL p f g)) ≠ 0 := fun e => by
    have := m2.2.1
    rw [e] at this
    exact n0 (Dv.of_zero this)
  have l1 := m2.2.1.len_le n0
  have l2 := m2.2.2.1.len_le M0
  rw [pol_len m2.1, m1.1] at l1 l2
  have hm := (monL_iff hp m2.1).2 (m2.2.2.2.resolve_left M0)
  refine ⟨?_, fun W => holdsIB_no (never hp cf cg hf hg W), m2.1, by omega⟩
  unfold proveE
  rw [if_pos ⟨monB_true.2 hm, by omega⟩, if_neg (by rw [holdsIB_no (never hp cf cg hf hg _)]; simp)]
end
end Alg
end
