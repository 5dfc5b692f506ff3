/- The power by the prime: of a sum, of a product, again. Irreducibility and the parts by degrees: in words of lists of coefficients. The parts of a polynomial by the degrees of their factors: in words of lists of coefficients. No product is irreducible; irreducibility by trying all divisors: in words of lists of coefficients. -/
import Derived.Test.YtcbhoedifgghhaaDoorA16
import Derived.Test.YtcbhoedifgghhaaDoorA20
import Derived.Test.YtcbhoedifgghhaaDoorW39
import Derived.Test.YtcbhoedifgghhaaDoorS1
section
open Alg
namespace Alg
open Poly
section
variable {p : Nat} [NeZero p]
theorem nat_p (f : Poly (Fp p)) : CR.nat p * f = 0 := by
  have h : (CR.nat p : Poly (Fp p)) = 0 := by
    have key : ∀ n, (CR.nat n : Poly (Fp p)) = C (CR.nat n) := by
      intro n
      induction n with
      | zero => rw [CR.nat_zero, CR.nat_zero, C_zero]
      | succ n ih =>
        show CR.nat n + 1 = C (CR.nat n + 1)
        rw [ih, C_add, C_one]
    rw [key, Fp.nat_eq, Fp.of_self, C_zero]
  rw [h, CR.zero_mul]
theorem pw_p_add (hp : IsPr p) (F G : Poly (Fp p)) : ∀ k, CR.pw (F + G) (p ^ k) = CR.pw F (p ^ k) + CR.pw G (p ^ k)
  | 0 => by rw [Nat.pow_zero, CR.pw_one, CR.pw_one, CR.pw_one]
  | k + 1 => by
    rw [Nat.pow_succ, CR.pw_mul, CR.pw_mul, CR.pw_mul, pw_p_add hp F G k]
    obtain ⟨c, hc⟩ := CR.frob_add hp (CR.pw F (p ^ k)) (CR.pw G (p ^ k))
    rw [hc, nat_p, CR.add_zero]
theorem addL_md {m : List Nat} {F G : Poly (Fp p)} {l k : List Nat} (hl : Md p m F l) (hk : Md p m G k) : Md p m (F + G) (addL p l k) := by
  have h1 := addL_ok' (p := p) l k
  refine ⟨h1.2, ?_, ?_⟩
  · have := addL_len p l k
    have a := hl.len
    have b := hk.len
    omega
  · rw [h1.1]
    have e : F + G + -(pol p l + pol p k) = (F + -pol p l) + (G + -pol p k) := by rw [CR.neg_add_eq]; ac_rfl
    rw [e]
    exact Dv.add hl.dv hk.dv
theorem frob_sum (hp : IsPr p) {f g m : List Nat} (cf : Canon p f) (cg : Canon p g) (cm : Canon p m) (h0 : m ≠ []) (k : Nat) : frobL p (addL p f g) m k = addL p (frobL p f m k) (frobL p g m k) := by
  have h1 := addL_ok' (p := p) f g
  have h2 := frobL_ok hp h1.2 cm h0 k
  rw [h1.1, pw_p_add hp] at h2
  exact Md.unique hp cm h2 (addL_md (frobL_ok hp cf cm h0 k) (frobL_ok hp cg cm h0 k))
theorem frob_prod (hp : IsPr p) {f g m : List Nat} (cf : Canon p f) (cg : Canon p g) (cm : Canon p m) (h0 : m ≠ []) (k : Nat) : frobL p (mulL p f g) m k = remL p (mulL p (frobL p f m k) (frobL p g m k)) m := by
  have h1 := mulL_ok (p := p) f g
  have h2 := frobL_ok hp h1.2 cm h0 k
  rw [h1.1, CR.mul_pw] at h2
  exact Md.unique hp cm h2 (Md.mul hp cm (frobL_ok hp cf cm h0 k) (frobL_ok hp cg cm h0 k))
theorem frob_again (hp : IsPr p) {f m : List Nat} (cf : Canon p f) (cm : Canon p m) (h0 : m ≠ []) (k : Nat) : frobL p (frobL p f m k) m 1 = frobL p f m (k + 1) := by
  have h := frobL_ok hp cf cm h0 k
  have h1 := remL_md hp h.canon cm h0
  have h2 : Md p m (pol p (frobL p f m k)) (frobL p f m k) := ⟨h.canon, h.len, ⟨0, by rw [CR.add_neg, CR.mul_zero]⟩⟩
  have e : remL p (frobL p f m k) m = frobL p f m k := Md.unique hp cm h1 h2
  show powL p (remL p (frobL p f m k) m) m p = powL p (frobL p f m k) m p
  rw [e]
end
end Alg
end
section
open Alg
namespace Alg
open Poly
/-- the remainder, by f, of x^(p^k) - x -/
def apL (p : Nat) (f : List Nat) (k : Nat) : List Nat := remL p (sbL p (frobL p [0, 1] f k) [0, 1]) f
/-- a Bezout triple as it is written down -/
structure PB where
  pg : Nat
  G : List Nat
  pu : Nat
  U : List Nat
  pv : Nat
  V : List Nat
def PB.ofT (p : Nat) (x : T3) : PB := ⟨p, x.G, p, x.U, p, x.V⟩
/-- one look of the paper holds: as the program asks, as the document asks -/
def lookP (p : Nat) (f : List Nat) (q : Nat) (x : PB) : Prop :=
  sameB x.pg x.G p [1] = true ∧ holdsB p (apL p f ((f.length - 1) / q)) p f x.pg x.G x.pu x.U x.pv x.V = true
def lookR (p : Nat) (f : List Nat) (q : Nat) (x : PB) : Prop :=
  x.G.length = 1 ∧ holdsR p (apL p f ((f.length - 1) / q)) p f x.pg x.G x.pu x.U x.pv x.V = true
theorem look_iff (p : Nat) (f : List Nat) (q : Nat) (x : PB) : lookP p f q x ↔ lookR p f q x := by
  unfold lookP lookR
  rw [holdsB_eq]
  constructor
  · rintro ⟨h1, h2⟩
    have := sameB_true.1 h1
    exact ⟨by rw [this.2]; rfl, h2⟩
  · rintro ⟨h1, h2⟩
    refine ⟨?_, h2⟩
    have h3 := h2
    rw [← holdsB_eq] at h3
    unfold holdsB at h3
    simp only [Bool.and_eq_true, Bool.or_eq_true, decide_eq_true_eq] at h3
    obtain ⟨⟨⟨⟨⟨⟨⟨⟨⟨⟨⟨⟨_, e2⟩, _⟩, _⟩, _⟩, _⟩, _⟩, _⟩, _⟩, h4⟩, _⟩, _⟩, _⟩ := h3
    rw [sameB_true]
    refine ⟨e2, ?_⟩
    rcases h4 with h4 | h4
    · rw [h4] at h1; simp at h1
    · match hG : x.G with
      | [] => rw [hG] at h1; simp at h1
      | [a] => rw [hG] at h4; simp only [List.length_singleton, nth] at h4; simp at h4; rw [h4]
      | a :: b :: l => rw [hG] at h1; simp at h1
/-- a paper holds -/
structure HoldsI (p : Nat) (f : List Nat) (W : List PB) : Prop where
  right : rightB p f = true
  monic : nth f (f.length - 1) = 1
  two : 2 ≤ f.length
  len : W.length = (prl (f.length - 1)).length
  whole : apL p f (f.length - 1) = []
  look : ∀ i (h : i < W.length), lookP p f (nth (prl (f.length - 1)) i) W[i]
section
variable {p : Nat} [NeZero p]
omit [NeZero p] in
theorem canon_x (hp : IsPr p) : Canon p [0, 1] := (canon_iff (p := p) (l := [0, 1]) (n := 2) rfl (by have := hp.1; omega)).2 ⟨fun i hi => by
  have h2 := hp.1
  have : i = 0 ∨ i = 1 := by omega
  rcases this with rfl | rfl
  · show 0 < p; omega
  · show 1 < p; omega, Or.inr (by decide)⟩
theorem pol_x (_hp : IsPr p) : pol p [0, 1] = X 1 := Poly.ext fun i => by
  rw [pol_c, c_X]
  match i with
  | 0 => rfl
  | 1 => rfl
  | i + 2 => rfl
theorem apL_md (hp : IsPr p) {f : List Nat} (cf : Canon p f) (h0 : f ≠ []) (k : Nat) : Md p f (xpx p k) (apL p f k) := by
  have h := frobL_ok hp (canon_x hp) cf h0 k
  rw [pol_x hp] at h
  have hs := sbL_ok (p := p) (frobL p [0, 1] f k) [0, 1] (fun i => canon_le (canon_x hp) i)
  have h1 := remL_md hp hs.2 cf h0
  refine ⟨h1.canon, h1.len, ?_⟩
  have h2 := h1.dv
  rw [hs.1, pol_x hp] at h2
  have := Dv.add h.dv h2
  have e : CR.pw (X 1) (p ^ k) + -pol p (frobL p [0, 1] f k) + (pol p (frobL p [0, 1] f k) + -X 1 + -pol p (remL p (sbL p (frobL p [0, 1] f k) [0, 1]) f)) = xpx p k + -pol p (apL p f k) := by
    unfold xpx
    have e1 : CR.pw (X 1) (p ^ k) + -pol p (frobL p [0, 1] f k) + (pol p (frobL p [0, 1] f k) + -X 1 + -pol p (remL p (sbL p (frobL p [0, 1] f k) [0, 1]) f)) = CR.pw (X 1) (p ^ k) + (-pol p (frobL p [0, 1] f k) + pol p (frobL p [0, 1] f k)) + -X 1 + -pol p (remL p (sbL p (frobL p [0, 1] f k) [0, 1]) f) := by ac_rfl
    rw [e1, CR.neg_add, CR.add_zero]; rfl
  rwa [e] at this
theorem apL_nil (hp : IsPr p) {f : List Nat} (cf : Canon p f) (h0 : f ≠ []) (k : Nat) : apL p f k = [] ↔ Dv (pol p f) (xpx p k) := by
  have h := apL_md hp cf h0 k
  constructor
  · intro e
    have := h.dv
    rwa [e, pol_nil, CR.neg_zero, CR.add_zero] at this
  · intro hd
    refine Md.unique hp cf h ⟨canon_nil, ?_, ?_⟩
    · exact List.length_pos_iff.2 h0
    · rwa [pol_nil, CR.neg_zero, CR.add_zero]
theorem gcd_dv (hp : IsPr p) {f g : List Nat} (cf : Canon p f) (cg : Canon p g) (e : Poly (Fp p)) (h1 : Dv e (pol p f)) (h2 : Dv e (pol p g)) : Dv e (pol p (gcdL p f g).G) := by
  have h := (gcdL_ok hp f g cf cg).1.comb
  rw [← h]
  exact (h1.mul_left _).add (h2.mul_left _)
theorem gcd_one (hp : IsPr p) {f g : List Nat} (cf : Canon p f) (cg : Canon p g) : (gcdL p f g).G = [1] ↔ Cop (pol p f) (pol p g) := by
  haveI := Fp.isFd hp
  have hok := gcdL_ok hp f g cf cg
  constructor
  · intro e
    have h := hok.1.comb
    rw [e, (pol_one (p := p) hp.1).1] at h
    exact ⟨_, _, h.symm⟩
  · intro hc
    have h1 := cop_len hc hok.2.1 hok.2.2.1
    have h0 : pol p (gcdL p f g).G ≠ 0 := fun e => by rw [e, len_zero] at h1; omega
    have hm := hok.2.2.2.resolve_left h0
    refine canon_ext hok.1.cg (pol_one hp.1).2 ?_
    rw [(pol_one (p := p) hp.1).1]
    have e0 : pol p (gcdL p f g).G = C ((pol p (gcdL p f g).G).c 0) := len_le_one (by omega)
    have e1 : (pol p (gcdL p f g).G).c 0 = 1 := by
      have hm : (pol p (gcdL p f g).G).lead = 1 := hm
      rw [lead, h1] at hm; exact hm
    rw [e0, e1, C_one]
theorem cop_ap (hp : IsPr p) {f : List Nat} (cf : Canon p f) (h0 : f ≠ []) (k : Nat) : Cop (pol p (apL p f k)) (pol p f) ↔ Cop (xpx p k) (pol p f) := by
  obtain ⟨q, hq⟩ := (apL_md hp cf h0 k).dv
  constructor
  · rintro ⟨u, v, e⟩
    refine ⟨u, v + -(u * q), ?_⟩
    rw [e, CR.add_mul, CR.neg_mul]
    have hx : xpx p k = pol p f * q + pol p (apL p f k) := by
      rw [← hq, CR.add_assoc, CR.neg_add, CR.add_zero]
    rw [hx, CR.mul_add]
    have : u * (pol p f * q) + u * pol p (apL p f k) + (v * pol p f + -(u * q * pol p f)) = u * pol p (apL p f k) + v * pol p f + (u * q * pol p f + -(u * q * pol p f)) := by ac_rfl
    rw [this, CR.add_neg, CR.add_zero]
  · rintro ⟨u, v, e⟩
    refine ⟨u, v + u * q, ?_⟩
    rw [e, CR.add_mul]
    have hx : xpx p k = pol p f * q + pol p (apL p f k) := by
      rw [← hq, CR.add_assoc, CR.neg_add, CR.add_zero]
    rw [hx, CR.mul_add]; ac_rfl
/-- the paper that is made -/
noncomputable def proveW (p : Nat) (f : List Nat) : List PB := (prl (f.length - 1)).map fun q => PB.ofT p (gcdL p (apL p f ((f.length - 1) / q)) f)
theorem HoldsI.irr {f : List Nat} {W : List PB} (h : HoldsI p f W) : Irr (pol p f) := by
  obtain ⟨cf, hp, _⟩ := rightB_true.1 h.right
  have h2 := h.two
  have f0 : f ≠ [] := fun e => by rw [e] at h2; simp at h2
  refine rabin_irr hp (n := f.length - 1) (by rw [pol_len cf]; omega) (by omega) ((apL_nil hp cf f0 _).1 h.whole) fun q hq hqn => ?_
  have hm := (mem_prl (by omega) q).2 ⟨hq, hqn⟩
  obtain ⟨i, hi, e⟩ := List.mem_iff_getElem.1 hm
  have hiW : i < W.length := by rw [h.len]; exact hi
  have hl := h.look i hiW
  have e2 : nth (prl (f.length - 1)) i = q := by
    rw [nth, List.getD_eq_getElem?_getD, List.getElem?_eq_getElem hi]; exact e
  rw [e2] at hl
  rw [← cop_ap hp cf f0]
  obtain ⟨s1, s2⟩ := hl
  have sg := (sameB_true.1 s1).2
  unfold holdsB at s2
  simp only [Bool.and_eq_true, Bool.or_eq_true, decide_eq_true_eq] at s2
  obtain ⟨_, hs⟩ := s2
  have hs := (sameB_true.1 hs).2
  have h3 := addL_ok' (p := p) (mulL p W[i].U (apL p f ((f.length - 1) / q))) (mulL p W[i].V f)
  have m1 := mulL_ok (p := p) W[i].U (apL p f ((f.length - 1) / q))
  have m2 := mulL_ok (p := p) W[i].V f
  have h4 := h3.1
  rw [hs, sg, (pol_one (p := p) hp.1).1, m1.1, m2.1] at h4
  exact ⟨_, _, h4⟩
theorem irr_holdsI (hp : IsPr p) (hp2 : p < 2147483648) {f : List Nat} (cf : Canon p f) (hm : nth f (f.length - 1) = 1) (h2 : 2 ≤ f.length) (hi : Irr (pol p f)) : HoldsI p f (proveW p f) := by
  have f0 : f ≠ [] := fun e => by rw [e] at h2; simp at h2
  have hr := irr_rabin hp hi (n := f.length - 1) (by rw [pol_len cf]; omega) (by omega)
  refine ⟨rightB_true.2 ⟨cf, hp, hp2⟩, hm, h2, by rw [proveW, List.length_map], (apL_nil hp cf f0 _).2 hr.1, fun i hi => ?_⟩
  have hl : i < (prl (f.length - 1)).length := by rw [proveW, List.length_map] at hi; exact hi
  have e : (proveW p f)[i] = PB.ofT p (gcdL p (apL p f ((f.length - 1) / nth (prl (f.length - 1)) i)) f) := by
    simp only [proveW, List.getElem_map]
    rw [nth, List.getD_eq_getElem?_getD, List.getElem?_eq_getElem hl]; rfl
  have hq := (mem_prl (by omega) _).1 (nth_memL hl)
  have ca := (apL_md hp cf f0 ((f.length - 1) / nth (prl (f.length - 1)) i)).canon
  rw [e]
  refine ⟨sameB_true.2 ⟨rfl, ?_⟩, holdsB_gcd hp hp2 ca cf⟩
  exact (gcd_one hp ca cf).2 ((cop_ap hp cf f0 _).2 (hr.2 _ hq.1 hq.2))
/-- there is a paper just if it is irreducible -/
theorem prove_iff (hp : IsPr p) (hp2 : p < 2147483648) {f : List Nat} (cf : Canon p f) (hm : nth f (f.length - 1) = 1) (h2 : 2 ≤ f.length) : HoldsI p f (proveW p f) ↔ Irr (pol p f) :=
  ⟨fun h => h.irr, irr_holdsI hp hp2 cf hm h2⟩
end
end Alg
end
section
open Alg
namespace Alg
open Poly
/-- the part of r at the degree d -/
def gP (p : Nat) (r : List Nat) (d : Nat) : List Nat := (gcdL p r (apL p r d)).G
/-- what is left behind i parts -/
def rP (p : Nat) (f : List Nat) : Nat → List Nat
  | 0 => f
  | i + 1 => trim (divL p (rP p f i) (gP p (rP p f i) (i + 1))).1
/-- monic in lists -/
def MonL (l : List Nat) : Prop := 0 < l.length ∧ nth l (l.length - 1) = 1
section
variable {p : Nat} [NeZero p]
theorem monL_iff (hp : IsPr p) {l : List Nat} (c : Canon p l) : MonL l ↔ (pol p l).Monic := by
  haveI := Fp.isFd hp
  have h2 := hp.1
  constructor
  · rintro ⟨h0, h1⟩
    show (pol p l).lead = 1
    rw [pol_lead c]
    show Fp.of (nth l (l.length - 1)) = 1
    rw [h1, Fp.of_one]
  · intro h
    have hne := h.ne
    have h0 : l ≠ [] := fun e => hne ((pol_eq_zero c).2 e)
    refine ⟨List.length_pos_iff.2 h0, ?_⟩
    have h3 : (pol p l).lead = 1 := h
    rw [pol_lead c, ← Fp.of_one] at h3
    exact Fp.of_inj (c.getD _) (by omega) h3
theorem MonL.ne {l : List Nat} (h : MonL l) : l ≠ [] := fun e => by have := h.1; rw [e] at this; simp at this
/-- how it stands behind i parts -/
structure PtI (p : Nat) [NeZero p] (f : List Nat) (i : Nat) : Prop where
  cr : Canon p (rP p f i)
  mr : MonL (rP p f i)
  dv : Dv (pol p (rP p f i)) (pol p f)
  far : ∀ h, Irr h → Dv h (pol p (rP p f i)) → i + 1 < h.len
theorem PtI.start (_hp : IsPr p) {f : List Nat} (cf : Canon p f) (hm : MonL f) : PtI p f 0 := ⟨cf, hm, Dv.refl _, fun _ hh _ => hh.1⟩
theorem PtI.g (hp : IsPr p) {f : List Nat} {i : Nat} (h : PtI p f i) (d : Nat) : Canon p (gP p (rP p f i) d) ∧ MonL (gP p (rP p f i) d) ∧ Dv (pol p (gP p (rP p f i) d)) (pol p (rP p f i)) ∧ Dv (pol p (gP p (rP p f i) d)) (xpx p d) ∧
    (∀ e, Dv e (pol p (rP p f i)) → Dv e (xpx p d) → Dv e (pol p (gP p (rP p f i) d))) := by
  haveI := Fp.isFd hp
  have ca := apL_md hp h.cr h.mr.ne d
  obtain ⟨q, hq⟩ := ca.dv
  have hx : xpx p d = pol p (rP p f i) * q + pol p (apL p (rP p f i) d) := by
    rw [← hq, CR.add_assoc, CR.neg_add, CR.add_zero]
  have hok := gcdL_ok hp (rP p f i) (apL p (rP p f i) d) h.cr ca.canon
  have hne : pol p (gP p (rP p f i) d) ≠ 0 := fun e => by
    have hz := hok.2.1
    rw [show (gcdL p (rP p f i) (apL p (rP p f i) d)).G = gP p (rP p f i) d from rfl, e] at hz
    exact h.mr.ne ((pol_eq_zero h.cr).1 (Dv.of_zero hz))
  refine ⟨hok.1.cg, (monL_iff hp hok.1.cg).2 (hok.2.2.2.resolve_left hne), hok.2.1, ?_, fun e h1 h2 => gcd_dv hp h.cr ca.canon e h1 ?_⟩
  · rw [hx]; exact (hok.2.1.mul_right q).add hok.2.2.1
  · have := Dv.of_add (f := e) (g := pol p (apL p (rP p f i) d)) (h := pol p (rP p f i) * q) (by rw [CR.add_comm, ← hx]; exact h2) (h1.mul_right q)
    exact this
theorem PtI.cut (hp : IsPr p) {f : List Nat} {i : Nat} (h : PtI p f i) : pol p (rP p f i) = pol p (rP p f (i + 1)) * pol p (gP p (rP p f i) (i + 1)) := by
  haveI := Fp.isFd hp
  obtain ⟨cg, mg, dg, _, _⟩ := h.g hp (i + 1)
  obtain ⟨d1, d2, d3, d4⟩ := divL_ok hp (rP p f i) (gP p (rP p f i) (i + 1)) h.cr cg mg.ne
  have hz := (dv_rem d1.symm (by rw [pol_len d3, pol_len cg]; exact d4)).1 dg
  rw [hz, CR.add_zero] at d1
  exact d1.symm
theorem PtI.step (hp : IsPr p) {f : List Nat} (hs : SqF (pol p f)) {i : Nat} (h : PtI p f i) : PtI p f (i + 1) ∧ ∃ k, (gP p (rP p f i) (i + 1)).length = (i + 1) * k + 1 := by
  haveI := Fp.isFd hp
  obtain ⟨cg, mg, dg, dx, hm⟩ := h.g hp (i + 1)
  have hc := h.cut hp
  have c2 : Canon p (rP p f (i + 1)) := (divL_ok hp (rP p f i) (gP p (rP p f i) (i + 1)) h.cr cg mg.ne).2.1
  have hk := part_step hp hs h.dv h.far dg dx hm hc
  refine ⟨⟨c2, ?_, ?_, hk.1⟩, ?_⟩
  · have m1 : (pol p (rP p f i)).lead = 1 := (monL_iff hp h.cr).1 h.mr
    have m2 : (pol p (gP p (rP p f i) (i + 1))).lead = 1 := (monL_iff hp cg).1 mg
    have r0 : pol p (rP p f (i + 1)) ≠ 0 := fun e => by
      rw [e, CR.zero_mul] at hc; exact h.mr.ne ((pol_eq_zero h.cr).1 hc)
    have g0 : pol p (gP p (rP p f i) (i + 1)) ≠ 0 := fun e => mg.ne ((pol_eq_zero cg).1 e)
    have := lead_mul r0 g0
    rw [← hc, m1, m2, CR.mul_one] at this
    exact (monL_iff hp c2).2 this.symm
  · refine Dv.trans ?_ h.dv
    rw [hc]; exact Dv.self_mul _ _
  · obtain ⟨k, e⟩ := hk.2
    exact ⟨k, by rw [← pol_len cg]; exact e⟩
theorem PtI.all (hp : IsPr p) {f : List Nat} (cf : Canon p f) (hm : MonL f) (hs : SqF (pol p f)) : ∀ i, PtI p f i
  | 0 => PtI.start hp cf hm
  | i + 1 => ((PtI.all hp cf hm hs i).step hp hs).1
/-- as long as something is left, there have been fewer parts than the degree -/
theorem PtI.short (hp : IsPr p) {f : List Nat} (cf : Canon p f) (hm : MonL f) {i : Nat} (h : PtI p f i) (hl : 1 < (rP p f i).length) : i + 1 < f.length ∧ (rP p f i).length ≤ f.length := by
  haveI := Fp.isFd hp
  obtain ⟨g, hg, hgd⟩ := irr_ex (pol p (rP p f i)).len (pol p (rP p f i)) (Nat.le_refl _) (by rw [pol_len h.cr]; exact hl)
  have h1 := h.far g hg hgd
  have f0 := pol_ne cf hm.ne
  have h2 := (hgd.trans h.dv).len_le f0
  have h3 := h.dv.len_le f0
  rw [pol_len cf] at h2 h3
  rw [pol_len h.cr] at h3
  omega
theorem gcd_uniq (hp : IsPr p) {f g f' g' : List Nat} (cf : Canon p f) (cg : Canon p g) (cf' : Canon p f') (cg' : Canon p g')
    (h : ∀ e, (Dv e (pol p f) ∧ Dv e (pol p g)) ↔ (Dv e (pol p f') ∧ Dv e (pol p g'))) : (gcdL p f g).G = (gcdL p f' g').G := by
  haveI := Fp.isFd hp
  have a := gcdL_ok hp f g cf cg
  have b := gcdL_ok hp f' g' cf' cg'
  have h1 := (h _).1 ⟨a.2.1, a.2.2.1⟩
  have h2 := (h _).2 ⟨b.2.1, b.2.2.1⟩
  exact canon_ext a.1.cg b.1.cg (dv_antisymm a.2.2.2 b.2.2.2 (gcd_dv hp cf' cg' _ h1.1 h1.2) (gcd_dv hp cf cg _ h2.1 h2.2))
/-- P is x to the power p^i, modulo r -/
def PwI (p : Nat) [NeZero p] (r P : List Nat) (i : Nat) : Prop := Canon p P ∧ Dv (pol p r) (CR.pw (X 1) (p ^ i) + -pol p P)
theorem PwI.start (hp : IsPr p) (r : List Nat) : PwI p r [0, 1] 0 := ⟨canon_x hp, by rw [pol_x hp, Nat.pow_zero, CR.pw_one, CR.add_neg]; exact Dv.zero _⟩
theorem dv_pw {m a b : Poly (Fp p)} (h : Dv m (a + -b)) : ∀ n, Dv m (CR.pw a n + -CR.pw b n)
  | 0 => by rw [CR.pw_zero, CR.pw_zero, CR.add_neg]; exact Dv.zero _
  | n + 1 => q_mul (dv_pw h n) h
theorem PwI.step (hp : IsPr p) {r P : List Nat} {i : Nat} (cr : Canon p r) (r0 : r ≠ []) (h : PwI p r P i) : PwI p r (frobL p P r 1) (i + 1) := by
  have hf := frobL_ok hp h.1 cr r0 1
  rw [Nat.pow_one] at hf
  refine ⟨hf.canon, ?_⟩
  have h1 := dv_pw h.2 p
  have := Dv.add h1 hf.dv
  have e : CR.pw (CR.pw (X 1) (p ^ i)) p + -CR.pw (pol p P) p + (CR.pw (pol p P) p + -pol p (frobL p P r 1)) = CR.pw (X 1) (p ^ (i + 1)) + -pol p (frobL p P r 1) := by
    rw [CR.add_assoc, ← CR.add_assoc (-CR.pw (pol p P) p), CR.neg_add, CR.zero_add, ← CR.pw_mul, Nat.pow_succ]
  rwa [e] at this
theorem PwI.of_dv {r r' P : List Nat} {i : Nat} (h : PwI p r P i) (hd : Dv (pol p r') (pol p r)) : PwI p r' P i := ⟨h.1, hd.trans h.2⟩
/-- the part as the program finds it -/
theorem PwI.part (hp : IsPr p) {r P : List Nat} {d : Nat} (cr : Canon p r) (r0 : r ≠ []) (h : PwI p r P d) : (gcdL p (sbL p P [0, 1]) r).G = gP p r d := by
  have hs := sbL_ok (p := p) P [0, 1] (fun i => canon_le (canon_x hp) i)
  have ca := apL_md hp cr r0 d
  have e1 : ∀ {a b : Poly (Fp p)} {e : Poly (Fp p)}, Dv e (a + -b) → (Dv e a ↔ Dv e b) := fun {a b e} hd => by
    constructor
    · intro h1
      have := Dv.add h1 hd.neg
      have e2 : a + -(a + -b) = b := by rw [CR.neg_add_eq, CR.neg_neg, ← CR.add_assoc, CR.add_neg, CR.zero_add]
      rwa [e2] at this
    · intro h1
      have := Dv.add hd h1
      rwa [CR.add_assoc, CR.neg_add, CR.add_zero] at this
  refine gcd_uniq hp hs.2 cr cr ca.canon fun e => ?_
  have k1 : ∀ (_ : Dv e (pol p r)), Dv e (pol p (sbL p P [0, 1])) ↔ Dv e (xpx p d) := fun hr => by
    rw [hs.1, pol_x hp]
    refine (e1 (a := xpx p d) (b := pol p P + -X 1) ?_).symm
    have := hr.trans h.2
    have e3 : xpx p d + -(pol p P + -X 1) = CR.pw (X 1) (p ^ d) + -pol p P := by
      unfold xpx
      rw [CR.neg_add_eq, CR.neg_neg]
      have : CR.pw (X 1) (p ^ d) + -X 1 + (-pol p P + X 1) = CR.pw (X 1) (p ^ d) + -pol p P + (-X 1 + X 1) := by ac_rfl
      rw [this, CR.neg_add, CR.add_zero]
    rwa [e3]
  have k2 : ∀ (_ : Dv e (pol p r)), Dv e (xpx p d) ↔ Dv e (pol p (apL p r d)) := fun hr => e1 (hr.trans ca.dv)
  exact ⟨fun ⟨a, b⟩ => ⟨b, (k2 b).1 ((k1 b).1 a)⟩, fun ⟨a, b⟩ => ⟨(k1 a).2 ((k2 a).2 b), a⟩⟩
/-- square-free as it is asked: the gcd with the derivative is of degree 0 -/
def freeL (p : Nat) (f : List Nat) : Prop := (gcdL p f (dfL p f)).G.length = 1
theorem free_sqf (hp : IsPr p) {f : List Nat} (cf : Canon p f) (f0 : f ≠ []) (h : freeL p f) : SqF (pol p f) := by
  haveI := Fp.isFd hp
  have hd := dfL_ok (p := p) f
  have hok := gcdL_ok hp f (dfL p f) cf hd.2
  refine sqf_of hp (pol_ne cf f0) ?_
  rw [← hd.1]
  refine (gcd_one hp cf hd.2).1 ?_
  have hne : (gcdL p f (dfL p f)).G ≠ [] := fun e => by unfold freeL at h; rw [e] at h; simp at h
  have hm := hok.2.2.2.resolve_left (pol_ne hok.1.cg hne)
  have hm2 := ((monL_iff hp hok.1.cg).2 hm).2
  unfold freeL at h
  match hG : (gcdL p f (dfL p f)).G with
  | [] => exact absurd hG hne
  | [a] => rw [hG] at hm2; simp [nth] at hm2; rw [hm2]
  | a :: b :: l => rw [hG] at h; simp at h
end
end Alg
end
section
open Alg
namespace Alg
open Poly
/-- the monic polynomial of degree d that a number tells -/
def digL (p d n : Nat) : List Nat := ((List.range d).map fun i => n / p ^ i % p) ++ [1]
/-- no monic polynomial up to half the degree divides -/
def Tried (p : Nat) (f : List Nat) : Prop := ∀ d, 1 ≤ d → 2 * d ≤ f.length - 1 → ∀ i, i < p ^ d → remL p f (digL p d i) ≠ []
section
variable {p : Nat} [NeZero p]
theorem digL_len (p d n : Nat) : (digL p d n).length = d + 1 := by simp [digL]
theorem digL_nth (p d n i : Nat) : nth (digL p d n) i = if i < d then n / p ^ i % p else if i = d then 1 else 0 := by
  unfold digL nth
  rw [List.getD_eq_getElem?_getD]
  by_cases h : i < d
  · rw [if_pos h, List.getElem?_append_left (by rw [List.length_map, List.length_range]; exact h), List.getElem?_map, List.getElem?_range h]; rfl
  · rw [if_neg h, List.getElem?_append_right (by rw [List.length_map, List.length_range]; omega), List.length_map, List.length_range]
    by_cases h2 : i = d
    · rw [if_pos h2, h2, Nat.sub_self]; rfl
    · rw [if_neg h2, List.getElem?_eq_none (by simp; omega)]; rfl
omit [NeZero p] in
theorem digL_canon (hp : IsPr p) (d n : Nat) : Canon p (digL p d n) := by
  have h2 := hp.1
  refine (canon_iff (digL_len p d n) (by omega)).2 ⟨fun i hi => ?_, Or.inr ?_⟩
  · rw [digL_nth]
    split
    · exact Nat.mod_lt _ (by omega)
    · split <;> omega
  · rw [digL_nth, if_neg (by omega), if_pos (by omega)]; omega
theorem remL_nil (hp : IsPr p) {f m : List Nat} (cf : Canon p f) (cm : Canon p m) (h0 : m ≠ []) : remL p f m = [] ↔ Dv (pol p m) (pol p f) := by
  have h := remL_md hp cf cm h0
  constructor
  · intro e
    have := h.dv
    rwa [e, pol_nil, CR.neg_zero, CR.add_zero] at this
  · intro hd
    refine Md.unique hp cm h ⟨canon_nil, List.length_pos_iff.2 h0, ?_⟩
    rwa [pol_nil, CR.neg_zero, CR.add_zero]
theorem dig_of (hp : IsPr p) {g : Poly (Fp p)} (hm : g.Monic) {d : Nat} (hl : g.len = d + 1) : ∃ i, i < p ^ d ∧ pol p (digL p d i) = g := by
  have h2 := hp.1
  obtain ⟨n, hn, hd⟩ := digits_ex p (by omega) (fun i => (g.c i).v) (fun i => (g.c i).h) d
  refine ⟨n, hn, Poly.ext fun i => ?_⟩
  rw [pol_c]
  show Fp.of (nth (digL p d n) i) = _
  rw [digL_nth]
  split
  · rename_i h
    rw [hd i h, Fp.of_v]
  · split
    · rename_i h
      have h3 : g.lead = 1 := hm
      rw [lead, hl] at h3
      rw [h, Fp.of_one]; exact h3.symm
    · rw [Fp.of_zero]
      exact (bd_of_len (f := g) (n := d + 1) (by omega) i (by omega)).symm
theorem tried_iff (hp : IsPr p) {f : List Nat} (cf : Canon p f) (h2 : 2 ≤ f.length) : Irr (pol p f) ↔ Tried p f := by
  haveI := Fp.isFd hp
  have f0 : f ≠ [] := fun e => by rw [e] at h2; simp at h2
  have p0 := pol_ne cf f0
  constructor
  · intro h d h1 hd i hi e
    have cd := digL_canon hp d i
    have dl := digL_len p d i
    have dn : digL p d i ≠ [] := fun e => by rw [e] at dl; simp at dl
    have hdv := (remL_nil hp cf cd dn).1 e
    rcases h.2 _ hdv with h3 | h3
    · rw [pol_len cd, dl] at h3; omega
    · have := h3.len_le (pol_ne cd dn)
      rw [pol_len cf, pol_len cd, dl] at this
      omega
  · intro h
    refine ⟨by rw [pol_len cf]; omega, fun a ha => ?_⟩
    by_cases ha1 : a.len = 1
    · exact Or.inl ha1
    by_cases hfa : Dv (pol p f) a
    · exact Or.inr hfa
    exfalso
    obtain ⟨b, hb⟩ := ha
    have a0 : a ≠ 0 := fun e => p0 (by rw [hb, e, CR.zero_mul])
    have b0 : b ≠ 0 := fun e => p0 (by rw [hb, e, CR.mul_zero])
    have hl := len_mul a0 b0
    rw [← hb, pol_len cf] at hl
    have la := len_pos a0
    have lb := len_pos b0
    have hb1 : b.len ≠ 1 := fun e => hfa (dv_len_eq hp p0 ⟨b, hb⟩ (by rw [pol_len cf]; omega))
    have key : ∀ (x y : Poly (Fp p)), pol p f = x * y → x ≠ 0 → x.len ≠ 1 → 2 * (x.len - 1) ≤ f.length - 1 → False := fun x y e x0 x1 hx => by
      have lx := len_pos x0
      obtain ⟨c, hc, hm⟩ := monic_of x x0
      have hlc := len_C_mul hc x
      obtain ⟨i, hi, ei⟩ := dig_of hp hm (d := x.len - 1) (by rw [hlc]; omega)
      have cd := digL_canon hp (x.len - 1) i
      have dl := digL_len p (x.len - 1) i
      have dn : digL p (x.len - 1) i ≠ [] := fun e => by rw [e] at dl; simp at dl
      refine h (x.len - 1) (by omega) hx i hi ((remL_nil hp cf cd dn).2 ?_)
      rw [ei, e]
      exact (dv_C_mul hc x).mul_right y
    by_cases hc : a.len ≤ b.len
    · exact key a b hb a0 ha1 (by omega)
    · exact key b a (by rw [hb, CR.mul_comm]) b0 hb1 (by omega)
/-- a product's monic multiple has no paper -/
theorem never (hp : IsPr p) {f g : List Nat} (cf : Canon p f) (cg : Canon p g) (hf : 2 ≤ f.length) (hg : 2 ≤ g.length) (W : List PB) : ¬ HoldsI p (mnL p (mulL p f g)) W := by
  intro h
  haveI := Fp.isFd hp
  have hi := h.irr
  have m1 := mulL_ok (p := p) f g
  have m2 := mnL_ok hp m1.2
  have f0 : f ≠ [] := fun e => by rw [e] at hf; simp at hf
  have g0 : g ≠ [] := fun e => by rw [e] at hg; simp at hg
  have F0 := pol_ne cf f0
  have G0 := pol_ne cg g0
  have hl := len_mul F0 G0
  rw [pol_len cf, pol_len cg] at hl
  have n0 : pol p (mulL p f g) ≠ 0 := by rw [m1.1]; exact mul_ne F0 G0
  have hdf : Dv (pol p f) (pol p (mnL p (mulL p f g))) := by
    refine Dv.trans ?_ m2.2.2.1
    rw [m1.1]; exact Dv.self_mul _ _
  rcases hi.2 _ hdf with h1 | h1
  · rw [pol_len cf] at h1; omega
  · have h2 := (m2.2.2.1.trans h1).len_le F0
    rw [m1.1, hl, pol_len cf] at h2
    omega
end
end Alg
end
