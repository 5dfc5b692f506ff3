/- The gcd of two with a factor more is the gcd with that factor more, made monic. Contract of ref09.HoldsGcd. The two words of a gcd with its cofactors are one. -/
import Derived.Test.YtcbhoedifgghhaaDoorS1
import Derived.Test.YtcbhoedifgghhaaDoorW29
import Derived.Test.YtcbhoedifgghhaaDoorW38
import Derived.Test.YtcbhoedifgghhaaDoorHH
section
open Alg
namespace Alg
open Poly
theorem mnL_ok {p : Nat} [NeZero p] (hp : IsPr p) {l : List Nat} (cl : Canon p l) :
    Canon p (mnL p l) ∧ Dv (pol p (mnL p l)) (pol p l) ∧ Dv (pol p l) (pol p (mnL p l)) ∧ (pol p (mnL p l) = 0 ∨ (pol p (mnL p l)).Monic) := by
  haveI := Fp.isFd hp
  by_cases h0 : l = []
  · have e : mnL p l = [] := by unfold mnL; rw [if_pos h0]
    rw [e, h0]
    exact ⟨canon_nil, Dv.refl _, Dv.refl _, Or.inl (by rw [pol_nil])⟩
  · have e : mnL p l = scL p (powM p (nth l (l.length - 1)) (p - 2)) l := by unfold mnL; rw [if_neg h0]; rfl
    rw [e]
    have hi := inv_lead hp cl h0
    generalize powM p (nth l (l.length - 1)) (p - 2) = c at *
    have hc : (Fp.of c : Fp p) ≠ 0 := fun h => Fp.one_ne_zero hp (by rw [← hi, h, CR.zero_mul])
    have a1 := scL_ok (p := p) c l
    refine ⟨a1.2, ?_, ?_, Or.inr ?_⟩
    · rw [a1.1]; exact dv_C_mul hc _
    · rw [a1.1]; exact Dv.mul_self _ _
    · show (pol p (scL p c l)).lead = 1
      rw [a1.1, lead_mul (C_ne hc) (pol_ne cl h0), lead_C hc, pol_lead cl]
      exact hi
theorem gcd_factor {p : Nat} (hp : IsPr p) {f g h : List Nat} (cf : Canon p f) (cg : Canon p g) :
    (gcdL p (mulL p f h) (mulL p g h)).G = mnL p (mulL p (gcdL p f g).G h) := by
  haveI : NeZero p := ⟨by have := hp.1; omega⟩
  haveI := Fp.isFd hp
  obtain ⟨h1, h2, h3, _⟩ := gcdL_ok hp f g cf cg
  obtain ⟨mf, kf⟩ := mulL_ok (p := p) f h
  obtain ⟨mg, kg⟩ := mulL_ok (p := p) g h
  obtain ⟨md, kd⟩ := mulL_ok (p := p) (gcdL p f g).G h
  obtain ⟨i1, i2, i3, i4⟩ := gcdL_ok hp (mulL p f h) (mulL p g h) kf kg
  obtain ⟨j1, j2, j3, j4⟩ := mnL_ok hp kd
  have A := IsGcd.mul_right h2 h3 h1.comb.symm (pol p h)
  have B := IsGcd.of_comb i2 i3 i1.comb.symm
  rw [← md, ← mf, ← mg] at A
  have D : IsGcd (pol p (mnL p (mulL p (gcdL p f g).G h))) (pol p (mulL p f h)) (pol p (mulL p g h)) :=
    ⟨j2.trans A.left, j2.trans A.right, fun e a b => (A.most e a b).trans j3⟩
  exact canon_ext i1.cg j1 (IsGcd.unique B D i4 j4)
end Alg
end
section
open Alg Go Go.RowKit
namespace Alg
/-- is it a gcd with its cofactors? as the document asks -/
noncomputable def holdsR (p : Nat) (f : List Nat) (q : Nat) (g : List Nat) (pg : Nat) (G : List Nat) (pu : Nat) (U : List Nat) (pv : Nat) (V : List Nat) : Bool :=
  decide (q = p) && decide (pg = p) && decide (pu = p) && decide (pv = p) && rightB p f && rightB p g && rightB p G && rightB p U && rightB p V && sameB p G p (gcdL p f g).G && sameB p G p (addL p (mulL p U f) (mulL p V g))
end Alg
namespace Go.Proofs.YtcbhoedifgghhaaDoor
open Go.RowKit
set_option maxRecDepth 100000 in
set_option maxHeartbeats 3000000 in
theorem ref_HoldsGcd (p : Nat) (fa : Option Addr) (fn fcap : Nat) (fl : List Nat) (q : Nat) (ga : Option Addr) (gn gcap : Nat) (gl : List Nat) (pg : Nat) (a1 : Option Addr) (n1 c1 : Nat) (G : List Nat) (pu : Nat) (a2 : Option Addr) (n2 c2 : Nat) (U : List Nat) (pv : Nat) (a3 : Option Addr) (n3 c3 : Nat) (V : List Nat) (w : World)
    (hf : Sl w fa fn fcap fl) (hg : Sl w ga gn gcap gl) (h1 : Sl w a1 n1 c1 G) (h2 : Sl w a2 n2 c2 U) (h3 : Sl w a3 n3 c3 V)
    (hp : p < 4294967296) (hfn : fn ≤ 274877906944) (hgn : gn ≤ 274877906944) (hn1 : n1 ≤ 274877906944) (hn2 : n2 ≤ 274877906944) (hn3 : n3 ≤ 274877906944) :
    Calls Tryd.prog 72 #[.agg #[.int .u32 (p : Int), .slice fa fn fcap], .agg #[.int .u32 (q : Int), .slice ga gn gcap], .agg #[.int .u32 (pg : Int), .slice a1 n1 c1, .int .u32 (pu : Int), .slice a2 n2 c2, .int .u32 (pv : Int), .slice a3 n3 c3]] w fun e w' => e = .returned (.bool (holdsR p fl q gl pg G pu U pv V)) ∧ Below w.heap.size w w' := by
  have hB := (boxes2 w #[.int .u32 (p : Int), .slice fa fn fcap] #[.int .u32 (q : Int), .slice ga gn gcap] 25 25).alloc (by simp) #[.int .u32 (pg : Int), .slice a1 n1 c1, .int .u32 (pu : Int), .slice a2 n2 c2, .int .u32 (pv : Int), .slice a3 n3 c3] 37
  go_enter Tryd.func72, Tryd.ntmps72
  go_upto_region 1 with fail
  generalize hW0 : (((w.alloc (.cells #[.int .u32 (p : Int), .slice fa fn fcap] 25)).alloc (.cells #[.int .u32 (q : Int), .slice ga gn gcap] 25)).alloc (.cells #[.int .u32 (pg : Int), .slice a1 n1 c1, .int .u32 (pu : Int), .slice a2 n2 c2, .int .u32 (pv : Int), .slice a3 n3 c3] 37)) = wr at hB ⊢
  clear hW0
  have hE := bne_no (rfl : p = p)
  by_cases hE1 : p = q
  rotate_left
  · have hT := bne_yes (fun e => hE1 e.symm : q ≠ p)
    have HV : Hid (holdsR p fl q gl pg G pu U pv V = false) := by
      have hN : ¬ q = p := fun e => hE1 e.symm
      show _ = _
      simp [holdsR, hN]
    clear hE1
    have y0 : wr.cell? ⟨w.heap.size, 0, none⟩ = some (.int .u32 (p : Int)) := hB.cell' 0 0 _ _ rfl rfl
    have y1 : wr.cell? ⟨w.heap.size + 1, 0, none⟩ = some (.int .u32 (q : Int)) := hB.cell' 1 0 _ _ rfl rfl
    have y2 : wr.cell? ⟨w.heap.size + 1 + 1, 0, none⟩ = some (.int .u32 (pg : Int)) := hB.cell' 2 0 _ _ rfl rfl
    have y3 : wr.cell? ⟨w.heap.size + 1 + 1, 2, none⟩ = some (.int .u32 (pu : Int)) := hB.cell' 2 2 _ _ rfl rfl
    have y4 : wr.cell? ⟨w.heap.size + 1 + 1, 4, none⟩ = some (.int .u32 (pv : Int)) := hB.cell' 2 4 _ _ rfl rfl
    go_wp2
    try rw [Exit.noGoto_ret]
    go_ret
    exact ⟨by rw [HV.out]; rfl, hB.below⟩
  subst hE1
  by_cases hE2 : p = pg
  rotate_left
  · have hT := bne_yes (fun e => hE2 e.symm : pg ≠ p)
    have HV : Hid (holdsR p fl p gl pg G pu U pv V = false) := by
      have hN : ¬ pg = p := fun e => hE2 e.symm
      show _ = _
      simp [holdsR, hN]
    clear hE2
    have y0 : wr.cell? ⟨w.heap.size, 0, none⟩ = some (.int .u32 (p : Int)) := hB.cell' 0 0 _ _ rfl rfl
    have y1 : wr.cell? ⟨w.heap.size + 1, 0, none⟩ = some (.int .u32 (p : Int)) := hB.cell' 1 0 _ _ rfl rfl
    have y2 : wr.cell? ⟨w.heap.size + 1 + 1, 0, none⟩ = some (.int .u32 (pg : Int)) := hB.cell' 2 0 _ _ rfl rfl
    have y3 : wr.cell? ⟨w.heap.size + 1 + 1, 2, none⟩ = some (.int .u32 (pu : Int)) := hB.cell' 2 2 _ _ rfl rfl
    have y4 : wr.cell? ⟨w.heap.size + 1 + 1, 4, none⟩ = some (.int .u32 (pv : Int)) := hB.cell' 2 4 _ _ rfl rfl
    go_wp2
    try rw [Exit.noGoto_ret]
    go_ret
    exact ⟨by rw [HV.out]; rfl, hB.below⟩
  subst hE2
  by_cases hE3 : p = pu
  rotate_left
  · have hT := bne_yes (fun e => hE3 e.symm : pu ≠ p)
    have HV : Hid (holdsR p fl p gl p G pu U pv V = false) := by
      have hN : ¬ pu = p := fun e => hE3 e.symm
      show _ = _
      simp [holdsR, hN]
    clear hE3
    have y0 : wr.cell? ⟨w.heap.size, 0, none⟩ = some (.int .u32 (p : Int)) := hB.cell' 0 0 _ _ rfl rfl
    have y1 : wr.cell? ⟨w.heap.size + 1, 0, none⟩ = some (.int .u32 (p : Int)) := hB.cell' 1 0 _ _ rfl rfl
    have y2 : wr.cell? ⟨w.heap.size + 1 + 1, 0, none⟩ = some (.int .u32 (p : Int)) := hB.cell' 2 0 _ _ rfl rfl
    have y3 : wr.cell? ⟨w.heap.size + 1 + 1, 2, none⟩ = some (.int .u32 (pu : Int)) := hB.cell' 2 2 _ _ rfl rfl
    have y4 : wr.cell? ⟨w.heap.size + 1 + 1, 4, none⟩ = some (.int .u32 (pv : Int)) := hB.cell' 2 4 _ _ rfl rfl
    go_wp2
    try rw [Exit.noGoto_ret]
    go_ret
    exact ⟨by rw [HV.out]; rfl, hB.below⟩
  subst hE3
  by_cases hE4 : p = pv
  rotate_left
  · have hT := bne_yes (fun e => hE4 e.symm : pv ≠ p)
    have HV : Hid (holdsR p fl p gl p G p U pv V = false) := by
      have hN : ¬ pv = p := fun e => hE4 e.symm
      show _ = _
      simp [holdsR, hN]
    clear hE4
    have y0 : wr.cell? ⟨w.heap.size, 0, none⟩ = some (.int .u32 (p : Int)) := hB.cell' 0 0 _ _ rfl rfl
    have y1 : wr.cell? ⟨w.heap.size + 1, 0, none⟩ = some (.int .u32 (p : Int)) := hB.cell' 1 0 _ _ rfl rfl
    have y2 : wr.cell? ⟨w.heap.size + 1 + 1, 0, none⟩ = some (.int .u32 (p : Int)) := hB.cell' 2 0 _ _ rfl rfl
    have y3 : wr.cell? ⟨w.heap.size + 1 + 1, 2, none⟩ = some (.int .u32 (p : Int)) := hB.cell' 2 2 _ _ rfl rfl
    have y4 : wr.cell? ⟨w.heap.size + 1 + 1, 4, none⟩ = some (.int .u32 (pv : Int)) := hB.cell' 2 4 _ _ rfl rfl
    go_wp2
    try rw [Exit.noGoto_ret]
    go_ret
    exact ⟨by rw [HV.out]; rfl, hB.below⟩
  subst hE4
  have K : Hid (∀ W, Boxes w W [#[.int .u32 (p : Int), .slice fa fn fcap], #[.int .u32 (p : Int), .slice ga gn gcap], #[.int .u32 (p : Int), .slice a1 n1 c1, .int .u32 (p : Int), .slice a2 n2 c2, .int .u32 (p : Int), .slice a3 n3 c3]] → W.cell? ⟨w.heap.size, 0, none⟩ = some (.int .u32 (p : Int)) ∧ W.cell? ⟨w.heap.size, 1, none⟩ = some (.slice fa fn fcap) ∧ W.cell? ⟨w.heap.size + 1, 0, none⟩ = some (.int .u32 (p : Int)) ∧ W.cell? ⟨w.heap.size + 1, 1, none⟩ = some (.slice ga gn gcap) ∧ W.cell? ⟨w.heap.size + 1 + 1, 0, none⟩ = some (.int .u32 (p : Int)) ∧ W.cell? ⟨w.heap.size + 1 + 1, 1, none⟩ = some (.slice a1 n1 c1) ∧ W.cell? ⟨w.heap.size + 1 + 1, 2, none⟩ = some (.int .u32 (p : Int)) ∧ W.cell? ⟨w.heap.size + 1 + 1, 3, none⟩ = some (.slice a2 n2 c2) ∧ W.cell? ⟨w.heap.size + 1 + 1, 4, none⟩ = some (.int .u32 (p : Int)) ∧ W.cell? ⟨w.heap.size + 1 + 1, 5, none⟩ = some (.slice a3 n3 c3) ∧ Boxes w W [#[.int .u32 (p : Int), .slice fa fn fcap], #[.int .u32 (p : Int), .slice ga gn gcap], #[.int .u32 (p : Int), .slice a1 n1 c1, .int .u32 (p : Int), .slice a2 n2 c2, .int .u32 (p : Int), .slice a3 n3 c3]]) :=
    fun W h => ⟨h.cell' 0 0 _ _ rfl rfl, h.cell' 0 1 _ _ rfl rfl, h.cell' 1 0 _ _ rfl rfl, h.cell' 1 1 _ _ rfl rfl, h.cell' 2 0 _ _ rfl rfl, h.cell' 2 1 _ _ rfl rfl, h.cell' 2 2 _ _ rfl rfl, h.cell' 2 3 _ _ rfl rfl, h.cell' 2 4 _ _ rfl rfl, h.cell' 2 5 _ _ rfl rfl, h⟩
  obtain ⟨d0, d1, d2, d3, d4, d5, d6, d7, d8, d9, _⟩ := K.out wr hB
  go_wp2_with fail
  refine (ref_Right p fa fn fcap fl wr (hf.mono hB.below) hp (by omega)).mono ?_
  rintro e w1 ⟨rfl, hb1⟩
  have hB1 := hB.mono hb1
  clear d0 d1 d2 d3 d4 d5 d6 d7 d8 d9
  cases hr0 : rightB p fl with
  | false =>
    have HV : Hid (holdsR p fl p gl p G p U p V = false) := by show _ = _; simp [holdsR, hr0]
    clear hr0
    obtain ⟨d0, d1, d2, d3, d4, d5, d6, d7, d8, d9, _⟩ := K.out w1 hB1
    go_wp2
    try rw [Exit.noGoto_ret]
    go_ret
    exact ⟨by rw [HV.out]; rfl, hB1.below⟩
  | true =>
  have HR0 := Alg.hid hr0
  clear hr0
  obtain ⟨d0, d1, d2, d3, d4, d5, d6, d7, d8, d9, _⟩ := K.out w1 hB1
  go_wp2_with fail
  refine (ref_Right p ga gn gcap gl w1 (hg.mono hB1.below) hp (by omega)).mono ?_
  rintro e w2 ⟨rfl, hb2⟩
  have hB2 := hB1.mono hb2
  clear d0 d1 d2 d3 d4 d5 d6 d7 d8 d9
  cases hr1 : rightB p gl with
  | false =>
    have HV : Hid (holdsR p fl p gl p G p U p V = false) := by show _ = _; simp [holdsR, hr1]
    clear hr1
    obtain ⟨d0, d1, d2, d3, d4, d5, d6, d7, d8, d9, _⟩ := K.out w2 hB2
    go_wp2
    try rw [Exit.noGoto_ret]
    go_ret
    exact ⟨by rw [HV.out]; rfl, hB2.below⟩
  | true =>
  have HR1 := Alg.hid hr1
  clear hr1
  obtain ⟨d0, d1, d2, d3, d4, d5, d6, d7, d8, d9, _⟩ := K.out w2 hB2
  go_wp2_with fail
  refine (ref_Right p a1 n1 c1 G w2 (h1.mono hB2.below) hp (by omega)).mono ?_
  rintro e w3 ⟨rfl, hb3⟩
  have hB3 := hB2.mono hb3
  clear d0 d1 d2 d3 d4 d5 d6 d7 d8 d9
  cases hr2 : rightB p G with
  | false =>
    have HV : Hid (holdsR p fl p gl p G p U p V = false) := by show _ = _; simp [holdsR, hr2]
    clear hr2
    obtain ⟨d0, d1, d2, d3, d4, d5, d6, d7, d8, d9, _⟩ := K.out w3 hB3
    go_wp2
    try rw [Exit.noGoto_ret]
    go_ret
    exact ⟨by rw [HV.out]; rfl, hB3.below⟩
  | true =>
  have HR2 := Alg.hid hr2
  clear hr2
  obtain ⟨d0, d1, d2, d3, d4, d5, d6, d7, d8, d9, _⟩ := K.out w3 hB3
  go_wp2_with fail
  refine (ref_Right p a2 n2 c2 U w3 (h2.mono hB3.below) hp (by omega)).mono ?_
  rintro e w4 ⟨rfl, hb4⟩
  have hB4 := hB3.mono hb4
  clear d0 d1 d2 d3 d4 d5 d6 d7 d8 d9
  cases hr3 : rightB p U with
  | false =>
    have HV : Hid (holdsR p fl p gl p G p U p V = false) := by show _ = _; simp [holdsR, hr3]
    clear hr3
    obtain ⟨d0, d1, d2, d3, d4, d5, d6, d7, d8, d9, _⟩ := K.out w4 hB4
    go_wp2
    try rw [Exit.noGoto_ret]
    go_ret
    exact ⟨by rw [HV.out]; rfl, hB4.below⟩
  | true =>
  have HR3 := Alg.hid hr3
  clear hr3
  obtain ⟨d0, d1, d2, d3, d4, d5, d6, d7, d8, d9, _⟩ := K.out w4 hB4
  go_wp2_with fail
  refine (ref_Right p a3 n3 c3 V w4 (h3.mono hB4.below) hp (by omega)).mono ?_
  rintro e w5 ⟨rfl, hb5⟩
  have hB5 := hB4.mono hb5
  clear d0 d1 d2 d3 d4 d5 d6 d7 d8 d9
  cases hr4 : rightB p V with
  | false =>
    have HV : Hid (holdsR p fl p gl p G p U p V = false) := by show _ = _; simp [holdsR, hr4]
    clear hr4
    obtain ⟨d0, d1, d2, d3, d4, d5, d6, d7, d8, d9, _⟩ := K.out w5 hB5
    go_wp2
    try rw [Exit.noGoto_ret]
    go_ret
    exact ⟨by rw [HV.out]; rfl, hB5.below⟩
  | true =>
  have HR4 := Alg.hid hr4
  clear hr4
  obtain ⟨cf, hpr, _⟩ := rightB_true.1 HR0.out
  have cg := (rightB_true.1 HR1.out).1
  have cU := (rightB_true.1 HR3.out).1
  have cV := (rightB_true.1 HR4.out).1
  have hp1 : 1 < p := hpr.1
  have hp0 : 0 < p := by omega
  haveI hne : NeZero p := ⟨by omega⟩
  have eU := h2.len
  have eV := h3.len
  have ef := hf.len
  have eg := hg.len
  have HM1 := Alg.hid (mulL_len p U fl)
  have HM2 := Alg.hid (mulL_len p V gl)
  have HA := Alg.hid (addL_len p (mulL p U fl) (mulL p V gl))
  have hF := Alg.hid (nth_lt cf)
  have hG := Alg.hid (nth_lt cg)
  have hU := Alg.hid (nth_lt cU)
  have hV := Alg.hid (nth_lt cV)
  have hB6 := hB5.drew
  have fld : ∀ (W : World) (b1 b2 b3 : Option Addr) (m1 m2 m3 k1 k2 k3 : Nat), (Instr.field 37 (.agg #[.int .u32 (p : Int), .slice b1 m1 k1, .int .u32 (p : Int), .slice b2 m2 k2, .int .u32 (p : Int), .slice b3 m3 k3]) 0).run Tryd.prog W = .ok (.agg #[.int .u32 (p : Int), .slice b1 m1 k1]) W := fun _ _ _ _ _ _ _ _ _ _ => by first | kernel_rfl | rfl
  obtain ⟨d0, d1, d2, d3, d4, d5, d6, d7, d8, d9, _⟩ := K.out w5 hB5
  cases hs : sameB p G p (gcdL p fl gl).G with
  | true =>
    have HV : Hid (holdsR p fl p gl p G p U p V = sameB p G p (addL p (mulL p U fl) (mulL p V gl))) := by show _ = _; simp only [holdsR, HR0.out, HR1.out, HR2.out, HR3.out, HR4.out, hs, decide_true, Bool.true_and, Bool.and_self]
    have HS := Alg.hid hs
    clear hs
    go_wp2
    go_region_held3 (fun W => W.cell? ⟨w.heap.size, 0, none⟩ = some (.int .u32 (p : Int)) ∧ W.cell? ⟨w.heap.size, 1, none⟩ = some (.slice fa fn fcap) ∧ W.cell? ⟨w.heap.size + 1, 0, none⟩ = some (.int .u32 (p : Int)) ∧ W.cell? ⟨w.heap.size + 1, 1, none⟩ = some (.slice ga gn gcap) ∧ W.cell? ⟨w.heap.size + 1 + 1, 0, none⟩ = some (.int .u32 (p : Int)) ∧ W.cell? ⟨w.heap.size + 1 + 1, 1, none⟩ = some (.slice a1 n1 c1) ∧ W.cell? ⟨w.heap.size + 1 + 1, 2, none⟩ = some (.int .u32 (p : Int)) ∧ W.cell? ⟨w.heap.size + 1 + 1, 3, none⟩ = some (.slice a2 n2 c2) ∧ W.cell? ⟨w.heap.size + 1 + 1, 4, none⟩ = some (.int .u32 (p : Int)) ∧ W.cell? ⟨w.heap.size + 1 + 1, 5, none⟩ = some (.slice a3 n3 c3) ∧ Boxes w W [#[.int .u32 (p : Int), .slice fa fn fcap], #[.int .u32 (p : Int), .slice ga gn gcap], #[.int .u32 (p : Int), .slice a1 n1 c1, .int .u32 (p : Int), .slice a2 n2 c2, .int .u32 (p : Int), .slice a3 n3 c3]])
      (first | (exact K.out _ (by assumption)) | fail)
      (first
        | (go_at_call 57; (with_reducible refine (ref_Gcd p fa fn fcap fl ga gn gcap gl w5.drew (hf.mono hB6.below) (hg.mono hB6.below) hpr hp (by omega) (by omega) cf cg).mono ?_); rintro e w7 ⟨b1, m1, k1, b2, m2, k2, b3, m3, k3, rfl, hT, hb7⟩; have hB7 := hB6.mono hb7; (try simp only [tri]))
        | (go_at_call 16; (with_reducible refine (ref_Same p a1 n1 c1 G p b1 m1 k1 (gcdL p fl gl).G w7 (h1.mono hB7.below) hT.g (by omega)).mono ?_); rw [HS.out]; rintro e w8 ⟨rfl, hb8⟩; have hB8 := hB7.mono hb8)
        | (go_at_call 47; (with_reducible refine (ref_Mul p a2 n2 c2 U fa fn fcap fl p w8 (h2.mono hB8.below) (hf.mono hB8.below) hp0 hp (by omega) (by omega) hU.out hF.out).mono ?_); rintro e w9 ⟨u1, v1, cc1, rfl, hs9, hb9, _⟩; have hB9 := hB8.mono hb9; have lm1 := HM1.out; have ls1 := hs9.len)
        | (go_at_call 47; (with_reducible refine (ref_Mul p a3 n3 c3 V ga gn gcap gl p w9 (h3.mono hB9.below) (hg.mono hB9.below) hp0 hp (by omega) (by omega) hV.out hG.out).mono ?_); rintro e w10 ⟨u2, v2, cc2, rfl, hs10, hb10, _⟩; have hB10 := hB9.mono hb10; have lm2 := HM2.out; have ls2 := hs10.len)
        | (go_at_call 44; (with_reducible refine (ref_AddL p u1 v1 cc1 (mulL p U fl) u2 v2 cc2 (mulL p V gl) p w10 (hs9.mono hb10) hs10 hp0 hp (by omega) (by omega)).mono ?_); rintro e w11 ⟨u3, v3, cc3, rfl, hs11, hb11, _⟩; have hB11 := hB10.mono hb11)
        | (go_at_call 16; (with_reducible refine (ref_Same p a1 n1 c1 G p u3 v3 cc3 (addL p (mulL p U fl) (mulL p V gl)) w11 (h1.mono hB11.below) hs11 (by omega)).mono ?_); rintro e w12 ⟨rfl, hb12⟩; have hB12 := hB11.mono hb12)
        | fail)
    all_goals
      go_wp2
      try rw [Exit.noGoto_ret]
      go_ret
      exact ⟨by rw [HV.out]; rfl, hB12.below⟩
  | false =>
    have HV : Hid (holdsR p fl p gl p G p U p V = false) := by show _ = _; simp only [holdsR, HR0.out, HR1.out, HR2.out, HR3.out, HR4.out, hs, decide_true, Bool.and_self, Bool.false_and, Bool.and_false]
    have HS := Alg.hid hs
    clear hs
    go_wp2
    refine wp_region_noPanic ?_
    refine wp_region_held2 21 [(1, 0), (1, 1), (1, 2), (1, 3), (0, 4), (1, 5), (0, 6), (1, 7), (1, 8), (1, 9), (1, 10), (1, 11), (1, 12), (1, 14), (1, 15), (1, 16), (0, 13), (0, 17), (0, 18), (0, 19), (1, 20), (3, 21)] (fun W => W.cell? ⟨w.heap.size, 0, none⟩ = some (.int .u32 (p : Int)) ∧ W.cell? ⟨w.heap.size, 1, none⟩ = some (.slice fa fn fcap) ∧ W.cell? ⟨w.heap.size + 1, 0, none⟩ = some (.int .u32 (p : Int)) ∧ W.cell? ⟨w.heap.size + 1, 1, none⟩ = some (.slice ga gn gcap) ∧ W.cell? ⟨w.heap.size + 1 + 1, 0, none⟩ = some (.int .u32 (p : Int)) ∧ W.cell? ⟨w.heap.size + 1 + 1, 1, none⟩ = some (.slice a1 n1 c1) ∧ W.cell? ⟨w.heap.size + 1 + 1, 2, none⟩ = some (.int .u32 (p : Int)) ∧ W.cell? ⟨w.heap.size + 1 + 1, 3, none⟩ = some (.slice a2 n2 c2) ∧ W.cell? ⟨w.heap.size + 1 + 1, 4, none⟩ = some (.int .u32 (p : Int)) ∧ W.cell? ⟨w.heap.size + 1 + 1, 5, none⟩ = some (.slice a3 n3 c3) ∧ Boxes w W [#[.int .u32 (p : Int), .slice fa fn fcap], #[.int .u32 (p : Int), .slice ga gn gcap], #[.int .u32 (p : Int), .slice a1 n1 c1, .int .u32 (p : Int), .slice a2 n2 c2, .int .u32 (p : Int), .slice a3 n3 c3]]) (fun _ => True) (by kernel_rfl) (by kernel_rfl) (fun _ _ _ _ _ h => h) (fun _ _ => trivial) (K.out _ hB6) (fun _ => ?_)
    simp only [pick2, List.getElem?_cons_succ, List.getElem?_cons_zero]
    iterate 4
      (refine held2_early (v := ?_) (by rfl) ?_ ?_
       rotate_left
       · intro W hSw; (try dsimp only at hSw); go_simp; (try with_reducible rfl)
       try simp only [Act.put, List.setIfInBounds_toArray, List.set_cons_zero, List.set_cons_succ])
    refine held2_loud (fun K' hK => ?_)
    go_simp
    refine (ref_Gcd p fa fn fcap fl ga gn gcap gl w5.drew (hf.mono hB6.below) (hg.mono hB6.below) hpr hp (by omega) (by omega) cf cg).mono ?_
    rintro e w7 ⟨b1, m1, k1, b2, m2, k2, b3, m3, k3, rfl, hT, hb7⟩
    have hB7 := hB6.mono hb7
    (try simp only [tri])
    refine hK.out _ _ (K.out _ hB7) (fun _ => ?_)
    clear hK K'
    try simp only [Act.put, List.setIfInBounds_toArray, List.set_cons_zero, List.set_cons_succ]
    iterate 1
      (refine held2_early (v := ?_) (by rfl) ?_ ?_
       rotate_left
       · intro W hSw; (try dsimp only at hSw); go_simp; (try with_reducible rfl)
       try simp only [Act.put, List.setIfInBounds_toArray, List.set_cons_zero, List.set_cons_succ])
    refine held2_loud (fun K' hK => ?_)
    go_simp
    refine (ref_Same p a1 n1 c1 G p b1 m1 k1 (gcdL p fl gl).G w7 (h1.mono hB7.below) hT.g (by omega)).mono ?_
    rw [HS.out]
    rintro e w8 ⟨rfl, hb8⟩
    have hB8 := hB7.mono hb8
    refine hK.out _ _ (K.out _ hB8) (fun _ => ?_)
    clear hK K'
    try simp only [Act.put, List.setIfInBounds_toArray, List.set_cons_zero, List.set_cons_succ]
    iterate 1
      (refine held2_early (v := ?_) (by rfl) ?_ ?_
       rotate_left
       · intro W hSw; (try dsimp only at hSw); go_simp; (try with_reducible rfl)
       try simp only [Act.put, List.setIfInBounds_toArray, List.set_cons_zero, List.set_cons_succ])
    iterate 8
      (refine held2_skip1 (by rfl) ?_
       try simp only [Act.put, List.setIfInBounds_toArray, List.set_cons_zero, List.set_cons_succ])
    refine held2_loud (fun K' hK => ?_)
    go_simp
    refine hK.out _ _ (K.out _ hB8) (fun _ => ?_)
    clear hK K'
    try simp only [Act.put, List.setIfInBounds_toArray, List.set_cons_zero, List.set_cons_succ]
    refine held2_loud (fun K' hK => ?_)
    go_simp
    refine hK.out _ _ (K.out _ hB8) (fun _ => ?_)
    clear hK K'
    try simp only [Act.put, List.setIfInBounds_toArray, List.set_cons_zero, List.set_cons_succ]
    refine held2_loud (fun K' hK => ?_)
    go_simp
    refine hK.out _ _ (K.out _ hB8) (fun _ => ?_)
    clear hK K'
    try simp only [Act.put, List.setIfInBounds_toArray, List.set_cons_zero, List.set_cons_succ]
    refine held2_loud (fun K' hK => ?_)
    go_simp
    refine hK.out _ _ (K.out _ hB8) (fun _ => ?_)
    clear hK K'
    try simp only [Act.put, List.setIfInBounds_toArray, List.set_cons_zero, List.set_cons_succ]
    iterate 1
      (refine held2_early (v := ?_) (by rfl) ?_ ?_
       rotate_left
       · intro W hSw; (try dsimp only at hSw); go_simp; (try with_reducible rfl)
       try simp only [Act.put, List.setIfInBounds_toArray, List.set_cons_zero, List.set_cons_succ])
    refine held2_store (fun K' hK => ?_)
    go_simp
    refine hK.out _ _ trivial (fun _ => ?_)
    clear hK K'
    try simp only [Act.put, List.setIfInBounds_toArray, List.set_cons_zero, List.set_cons_succ]
    refine held2_nil ?_
    refine NoPanic.normal ?_
    go_wp2
    try rw [Exit.noGoto_ret]
    go_ret
    exact ⟨by rw [HV.out]; rfl, hB8.below⟩
end Go.Proofs.YtcbhoedifgghhaaDoor
end
section
open Alg
namespace Alg
open Poly
theorem one_lead {p : Nat} [NeZero p] {G : List Nat} (cG : Canon p G) (h : (decide (G = []) || decide (nth G (G.length - 1) = 1)) = true) : pol p G = 0 ∨ (pol p G).Monic := by
  rw [Bool.or_eq_true, decide_eq_true_eq, decide_eq_true_eq] at h
  rcases h with h | h
  · exact Or.inl (by rw [h, pol_nil])
  · right
    show (pol p G).lead = 1
    rw [pol_lead cG]
    exact (congrArg Fp.of h).trans Fp.of_one
theorem holds_key {p : Nat} (hp : IsPr p) {f g G U V : List Nat} (cf : Canon p f) (cg : Canon p g) (cG : Canon p G) (hS : addL p (mulL p U f) (mulL p V g) = G) :
    ((decide (G = []) || decide (nth G (G.length - 1) = 1)) && dividesB p G f && dividesB p G g) = decide (G = (gcdL p f g).G) := by
  haveI : NeZero p := ⟨by have := hp.1; omega⟩
  haveI := Fp.isFd hp
  obtain ⟨h1, h2, h3, h4⟩ := gcdL_ok hp f g cf cg
  by_cases hG : G = (gcdL p f g).G
  · rw [decide_eq_true hG]
    rw [hG, lead_one hp h1.cg h4, (dividesB_iff hp h1.cg cf).2 h2, (dividesB_iff hp h1.cg cg).2 h3]
    rfl
  · rw [decide_eq_false hG]
    refine Bool.eq_false_iff.2 fun hx => hG ?_
    rw [Bool.and_eq_true, Bool.and_eq_true] at hx
    obtain ⟨⟨x1, x2⟩, x3⟩ := hx
    have a1 := one_lead cG x1
    have a2 := (dividesB_iff hp cG cf).1 x2
    have a3 := (dividesB_iff hp cG cg).1 x3
    have a4 : pol p G = pol p U * pol p f + pol p V * pol p g := by
      rw [← hS, (addL_ok' (p := p) _ _).1, (mulL_ok U f).1, (mulL_ok V g).1]
    exact canon_ext cG h1.cg (IsGcd.unique (IsGcd.of_comb a2 a3 a4) (IsGcd.of_comb h2 h3 h1.comb.symm) a1 h4)
theorem sameB_comm (p : Nat) (l : List Nat) (q : Nat) (l' : List Nat) : sameB p l q l' = sameB q l' p l := by
  unfold sameB
  congr 1
  exact propext ⟨fun h => ⟨h.1.symm, h.2.symm⟩, fun h => ⟨h.1.symm, h.2.symm⟩⟩
theorem holdsB_eq (p : Nat) (f : List Nat) (q : Nat) (g : List Nat) (pg : Nat) (G : List Nat) (pu : Nat) (U : List Nat) (pv : Nat) (V : List Nat) :
    holdsB p f q g pg G pu U pv V = holdsR p f q g pg G pu U pv V := by
  unfold holdsB holdsR
  cases h0 : (decide (q = p) && decide (pg = p) && decide (pu = p) && decide (pv = p) && rightB p f && rightB p g && rightB p G && rightB p U && rightB p V) with
  | false => simp only [Bool.false_and]
  | true =>
    simp only [Bool.and_eq_true] at h0
    obtain ⟨⟨⟨⟨⟨_, r1⟩, r2⟩, r3⟩, _⟩, _⟩ := h0
    obtain ⟨cf, hp, _⟩ := rightB_true.1 r1
    have cg := (rightB_true.1 r2).1
    have cG := (rightB_true.1 r3).1
    simp only [Bool.true_and]
    rw [sameB_comm p (addL p (mulL p U f) (mulL p V g)) p G]
    by_cases hS : addL p (mulL p U f) (mulL p V g) = G
    · rw [holds_key hp cf cg cG hS]
      have : sameB p G p (gcdL p f g).G = decide (G = (gcdL p f g).G) := by simp [sameB]
      rw [this]
    · have : sameB p G p (addL p (mulL p U f) (mulL p V g)) = false := by
        have hS' : ¬ G = addL p (mulL p U f) (mulL p V g) := fun e => hS e.symm
        simp [sameB, hS']
      rw [this, Bool.and_false, Bool.and_false]
end Alg
end
