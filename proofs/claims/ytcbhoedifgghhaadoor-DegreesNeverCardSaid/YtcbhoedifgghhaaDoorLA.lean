/- Contract of degrees.Parts. -/
import Derived.RangeFuncNested
import Derived.RangeFuncBound
import Derived.RangeFuncCalls
import Derived.RangeFuncLeaves
import Derived.Shelf.Abstract
import Derived.Shelf.RegionOpen
import Derived.WalkKit
import Derived.OwnWalkIn
import Derived.TacticsInMore
import Derived.LoopNIn
import Derived.LoopIn
import Derived.Test.YtcbhoedifgghhaaDoorG2
import Derived.Test.YtcbhoedifgghhaaDoorL4
open Alg Go Go.RowKit Go.Shelf
namespace Alg
/-- how long the slice in a box is -/
def outLen (W : World) (b : Nat) : Nat := match W.cell? ⟨b, 0, none⟩ with | some (.slice _ n _) => n | _ => 0
end Alg
namespace Go.Proofs.YtcbhoedifgghhaaDoor
open Go.RowKit Go.Shelf
attribute [local go_sem] Oper.semAt_some
set_option maxHeartbeats 1000000 in
theorem parts_in (n : Nat) (p : Nat) (fa : Option Addr) (fn fcap : Nat) (w : World) :
    CallsIn Fence.wide n Tryd.prog 55 #[.agg #[.int .u32 (p : Int), .slice fa fn fcap]] w fun e w' => e = .returned (.func (.func 88) #[] #[.pointer (some ⟨w.heap.size, 0, none⟩)]) ∧ w' = w.alloc (.cells #[.int .u32 (p : Int), .slice fa fn fcap] 25) := by
  refine callsIn_of_wp Tryd.func55 rfl trivial ?_ rfl
  simp only [Tryd.ntmps55, List.size_toArray, List.length_cons, List.length_nil, Nat.reduceAdd, Nat.reduceSub, Array.replicate_succ, Array.replicate_zero, List.push_toArray, List.append_toArray, List.nil_append, List.cons_append]
  gi_wp2
  go_ret
  exact ⟨rfl, rfl⟩
set_option maxRecDepth 100000 in
set_option maxHeartbeats 2000000 in
theorem parts1_in (n : Nat) (hn : 1 ≤ n) (p : Nat) [NeZero p] (fl : List Nat) (w : World) (bO bF l B : Nat) (fa : Option Addr) (fn fcap : Nat) (hpr : IsPr p) (hp : p < 4294967296) (cf : Canon p fl) (hfn : fn ≤ 900) (hf : Sl w fa fn fcap fl)
    (h1 : w.heap.size ≤ bO) (h2 : bO < bF) (HOK : okParts p fl) (Lp : World → Prop) (hLp : ∀ W W', Lp W → KeepsFrom B W W' → Lp W')
    (hY : ∀ (s : Nat × Nat) x W1, PRdy p fl w 25 bO bF s x W1 → Lp W1 → YieldAt Fence.wide (n - 1) Tryd.prog l #[.agg #[.int .u32 (p : Int), .slice x.1 x.2.1 x.2.2]] W1 fun e W' => e = .returned (.bool true) ∧ PWnt p fl w 25 bO bF (s.1 + 1, s.2) W' ∧ Lp W')
    (W : World) (h0 : PR0 p w bO bF fa fn fcap W) (hL : Lp W) :
    CallsIn Fence.wide n Tryd.prog 88 #[.func (.yield l) #[] #[], .pointer (some ⟨bF, 0, none⟩)] W fun e W' => (∃ v, e = .returned v) ∧ PFin p fl w 25 bO bF W' ∧ Lp W' := by
  obtain ⟨xO, xF, hB0⟩ := h0
  have lf := hf.len
  have hO := xO.lt
  have hF := xF.lt
  have HALL := Alg.hid (fun i => HOK.all hpr cf i)
  have HSH := Alg.hid (fun i => (HALL.out i).short hpr cf HOK.mon)
  have HGG := Alg.hid (fun i => (HALL.out i).g hpr (i + 1))
  have HCX := Alg.hid (canon_x hpr)
  have HY := Alg.hid hY
  clear hY
  have hp0 : 0 < p := by have := hpr.1; omega
  have hp1 : 1 < p := hpr.1
  refine callsIn_of_wp Tryd.func88 rfl trivial ?_ rfl
  simp only [Tryd.ntmps88, List.size_toArray, List.length_cons, List.length_nil, Nat.reduceAdd, Nat.reduceSub, Array.replicate_succ, Array.replicate_zero, List.push_toArray, List.append_toArray, List.nil_append, List.cons_append]
  have d0 := xF.cell 0 _ rfl
  have d1 := xF.cell 1 _ rfl
  gi_wp2
  refine ⟨trivial, ?_⟩
  refine (callsIn_wide.2 (deg_x p W)).mono ?_
  rintro e w1 ⟨xa, xn, xc, rfl, hsx, hb1, hpx⟩
  have xO1 := xO.mono hb1
  have xF1 := xF.mono hb1
  have hB1 := bl hB0 hb1 hB0.size
  have L1 := hLp _ _ hL (keeps_below hb1)
  clear d0 d1 xO xF hb1 hL
  have lx := hsx.len
  have lex := hsx.le
  obtain ⟨bP, hbP⟩ : ∃ b, b = w1.heap.size := ⟨_, rfl⟩
  have xP1 := Box.new w1 #[.int .u32 (p : Int), .slice xa xn xc] 25
  have of := hsx.off (r := w1.heap.size) (Nat.le_refl _)
  have s1 := hsx.mono ((Below.refl _ w1).alloc (Nat.le_refl _) (.cells #[.int .u32 (p : Int), .slice xa xn xc] 25))
  have hst : PSt p fl w 25 bO bF w1.heap.size 0 (.slice none 0 0) fa fn fcap fl xa xn xc [0, 1] (w1.alloc (.cells #[.int .u32 (p : Int), .slice xa xn xc] 25)) := by
    have e3 : bF < w1.heap.size := xF1.lt
    have hB2 := hB1.alloc hB1.size (.cells #[.int .u32 (p : Int), .slice xa xn xc] 25)
    refine ⟨h1, h2, e3, xO1.alloc _, xF1.alloc _, xP1, GrK.nil _ _ _ _ _, kPoly_mk (hf.mono hB2) ?_, kPoly_mk s1 ?_, hB2⟩
    · intro r hr
      simp [Value.ownBlock] at hr
      have := hB1.size
      exact hf.off (by omega)
    · intro r hr
      have hWs : r < W.heap.size ∨ r = w1.heap.size := by
        simp [Value.ownBlock] at hr
        rcases hr with rfl | rfl | rfl
        · exact Or.inl hO
        · exact Or.inl hF
        · exact Or.inr rfl
      rcases hWs with h | h
      · exact hpx.off0 h
      · rw [h]; exact of
  have L2 : Lp (w1.alloc (.cells #[.int .u32 (p : Int), .slice xa xn xc] 25)) := hLp _ _ L1 (keeps_below ((Below.refl _ w1).alloc (Nat.le_refl _) _))
  have HST := Alg.hid hst
  have HL2 := Alg.hid L2
  clear hst xP1 s1 of hpx hsx xO1 xF1 hB1
  gi_wp2
  rw [← hbP] at HST ⊢
  generalize hw2 : (w1.alloc (.cells #[.int .u32 (p : Int), .slice xa xn xc] 25)) = w2 at HST HL2 ⊢
  clear hw2 L2 L1 hB0 hbP lx lex
  gi_loopw [] (fun wr => ∃ i, Hid (PWnt p fl w 25 bO bF (i, bP) wr) ∧ Hid (Lp wr)) (fun wr => fl.length + 1 - outLen wr bO)
  case atStart => exact ⟨0, ⟨_, _, _, _, _, _, _, _, HST.out, PwI.start hpr fl, by simp only [List.length_cons, List.length_nil]; omega, fun k h => absurd h (by omega)⟩, HL2⟩
  case round =>
    clear HST HL2
    obtain ⟨i, hW, hL⟩ := hrel
    obtain ⟨vv, ra, rn, rc, pa, pn, pc, pl, hst, hpw, hpll, hmore⟩ := hW.out
    dsimp only at hst hpw hmore
    clear hW
    have HST := Alg.hid hst
    have HPW := Alg.hid hpw
    have HMORE := Alg.hid hmore
    have hsr := (kPoly_sl hst.kr).1
    have lr := hsr.len
    have ler := hsr.le
    have lcr := hsr.cap
    have d0 := hst.bf.cell 0 _ rfl
    have d1 := hst.bf.cell 1 _ rfl
    clear hst hpw hmore hsr
    gi_wp2
    refine ⟨trivial, ?_⟩
    refine (callsIn_wide.2 (ppoly_Deg (p : Int) ra rn rc wr (by omega))).mono ?_
    rintro e wa ⟨rfl, hba⟩
    have hsa := HST.out.mono hba
    have La := hLp _ _ hL.out (keeps_below hba)
    have mz : outLen wr bO = i := by
      unfold outLen
      rw [HST.out.bo.cell 0 _ rfl]
      obtain ⟨a', c', rfl, hs', _⟩ := HST.out.g.sl
      rfl
    clear d0 d1 hL
    by_cases hrn : ¬ 1 < rn
    · have hrn' : ¬ (rn : Int) - 1 > 0 := by omega
      have hfin : Hid (PFin p fl w 25 bO bF wa) := ⟨i, bP, ⟨_, _, _, _, _, _, _, _, hsa, HPW.out, hpll, HMORE.out⟩, by omega⟩
      have HLA := Alg.hid La
      clear hsa La
      gi_wp2
      go_end0
      exact ⟨⟨_, rfl⟩, hfin.out, HLA.out⟩
    have hrn : 1 < rn := by omega
    have hrn' : (rn : Int) - 1 > 0 := by omega
    have hsh := HSH.out i (by omega)
    have HM2 : Hid (∀ k, k < i + 1 → 1 < (rP p fl k).length) := fun k hk => by
      by_cases e : k = i
      · subst e; omega
      · exact HMORE.out k (by omega)
    have HCR := Alg.hid (HALL.out i).cr
    have HRN : Hid (rP p fl i ≠ []) := (HALL.out i).mr.ne
    have hgi := HGG.out i
    have HCG := Alg.hid hgi.1
    have HGM := Alg.hid hgi.2.1
    have HGNE : Hid (gP p (rP p fl i) (i + 1) ≠ []) := hgi.2.1.ne
    have HGL : (gP p (rP p fl i) (i + 1)).length ≤ (rP p fl i).length := by
      haveI := Fp.isFd hpr
      have h := hgi.2.2.1.len_le (pol_ne HCR.out HRN.out)
      rw [pol_len hgi.1, pol_len HCR.out] at h
      exact h
    have HDV : Hid (Poly.Dv (pol p (rP p fl (i + 1))) (pol p (rP p fl i))) := by
      have := (HALL.out i).cut hpr
      show Poly.Dv _ _
      rw [this]; exact Poly.Dv.self_mul _ _
    have HST2 := Alg.hid hsa
    have hsp := (kPoly_sl hsa.kp).1
    have hsr := (kPoly_sl hsa.kr).1
    have HPC := Alg.hid HPW.out.1
    have lpl := hsp.len
    have lep := hsp.le
    have lcp := hsp.cap
    have b0 := hsa.bp.cell 0 _ rfl
    have b1 := hsa.bp.cell 1 _ rfl
    have b2 := hsa.bf.cell 0 _ rfl
    have b3 := hsa.bf.cell 1 _ rfl
    clear hsa hgi
    gi_wp2
    refine ⟨trivial, ?_⟩
    refine (callsIn_wide.2 (ppoly_Frob p pa pn pc pl ra rn rc (rP p fl i) 1 wa hsp hsr hpr hp HPC.out HCR.out (by omega) (by omega) (by omega) (by omega))).mono ?_
    rintro e wb ⟨qa, qn, qc, rfl, hsq, hbb, hpq⟩
    have hsb := HST2.out.mono hbb
    have Lb := hLp _ _ La (keeps_below hbb)
    have HQ := Alg.hid (HPW.out.step hpr HCR.out HRN.out)
    have hkq := kPoly_mk (p := p) hsq (HST2.out.offs hpq)
    have f0 := hsb.bp.frozen 0
    have f1 := hsb.bp.frozen 1
    have g0 := hsb.bp.cell 0 _ rfl
    have g1 := hsb.bp.cell 1 _ rfl
    have hsc := hsb.setP hkq
    have Lc := hLp _ _ Lb ((keeps_set _ ⟨bP, 0, none⟩ (.int .u32 (p : Int))).trans (keeps_set _ ⟨bP, 1, none⟩ (.slice qa qn qc)))
    have HST3 := Alg.hid hsc
    have HLc := Alg.hid Lc
    have lql := hsq.len
    have HQL := (frobL_ok hpr HPC.out HCR.out HRN.out 1).len
    clear b0 b1 b2 b3 hsb hkq hsc Lc Lb La hpq hsp hsr HST2 hsq
    gi_wp2
    generalize hwc : ((wb.setCell ⟨bP, 0, none⟩ (.int .u32 (p : Int))).setCell ⟨bP, 1, none⟩ (.slice qa qn qc)) = wc at HST3 HLc ⊢
    clear hwc f0 f1 g0 g1
    have HFR := Alg.hid (HQ.out.part hpr HCR.out HRN.out)
    have HSC := Alg.hid (sbL_ok (p := p) (frobL p pl (rP p fl i) 1) [0, 1] (fun i => canon_le HCX.out i)).2
    have HSL := sbL_len p (frobL p pl (rP p fl i) 1) [0, 1]
    simp only [List.length_cons, List.length_nil] at HSL
    have hsqd := (kPoly_sl HST3.out.kp).1.drew
    have hsrd := (kPoly_sl HST3.out.kr).1.drew
    have KR : Hid (∀ W, Below wc.drew.heap.size wc.drew W → W.cell? ⟨bP, 0, none⟩ = some (.int .u32 (p : Int)) ∧ W.cell? ⟨bP, 1, none⟩ = some (.slice qa qn qc) ∧ W.cell? ⟨bF, 0, none⟩ = some (.int .u32 (p : Int)) ∧ W.cell? ⟨bF, 1, none⟩ = some (.slice ra rn rc)) := fun W h => ⟨(HST3.out.bp.drew.mono h).cell 0 _ rfl, (HST3.out.bp.drew.mono h).cell 1 _ rfl, (HST3.out.bf.drew.mono h).cell 0 _ rfl, (HST3.out.bf.drew.mono h).cell 1 _ rfl⟩
    refine wpIn_wide.2 ?_
    refine wp_region_lay 9 [(true, 0), (true, 1), (true, 2), (true, 5), (false, 3), (false, 4), (false, 6), (true, 7)] [⟨8, 4, #[.int .u32 0, .slice none 0 0], 25⟩] (by kernel_rfl) (by kernel_rfl) (fun x hx o ho ρ W => ?_) (fun v0 hv0 => ?_)
    · simp only [List.mem_cons, List.not_mem_nil, or_false] at hx
      subst hx
      all_goals (obtain rfl := Option.some.inj ho; go_simp)
    simp only [pick, List.getElem?_cons_succ, List.getElem?_cons_zero]
    iterate 4
      (refine heldR_quiet (v := ?_) (by rfl) ?_ ?_
       rotate_left
       · intro W hW; obtain ⟨d0, d1, d2, d3⟩ := KR.out W hW; go_simp; (try with_reducible rfl)
       try simp only [Act.put, List.setIfInBounds_toArray, List.set_cons_zero, List.set_cons_succ])
    refine heldR_loud (fun K' hK => ?_)
    go_simp
    refine (deg_x p v0).mono ?_
    rintro e vA ⟨xa, xn, xc, rfl, hsx, hbA, _⟩
    refine hK.out _ _ (hbA) (fun v1 hv1 => ?_)
    clear hK K'
    have rv1 := (hv0.tr hbA).tr hv1
    have hsx1 := hsx.mono hv1
    have lsx := hsx1.len
    simp only [List.length_cons, List.length_nil] at lsx
    try simp only [Act.put, List.setIfInBounds_toArray, List.set_cons_zero, List.set_cons_succ]
    refine heldR_loud (fun K' hK => ?_)
    go_simp
    refine (ppoly_SubL p qa qn qc (frobL p pl (rP p fl i) 1) xa xn xc [0, 1] (p : Int) v1 (hsqd.mono rv1) hsx1 hp0 hp (by omega) (by omega) (fun i => canon_le HCX.out i)).mono ?_
    rintro e vB ⟨ua, un, uc, rfl, hsu, hbB, _⟩
    refine hK.out _ _ (hbB) (fun v2 hv2 => ?_)
    clear hK K'
    have rv2 := (rv1.tr hbB).tr hv2
    have hsu2 := hsu.mono hv2
    have lsu := hsu2.len
    try simp only [Act.put, List.setIfInBounds_toArray, List.set_cons_zero, List.set_cons_succ]
    refine heldR_loud (fun K' hK => ?_)
    go_simp
    refine (ppoly_GcdP p ua un uc (sbL p (frobL p pl (rP p fl i) 1) [0, 1]) ra rn rc (rP p fl i) v2 hsu2 (hsrd.mono rv2) hpr hp (by omega) (by omega) HSC.out HCR.out).mono ?_
    rintro e vC ⟨a1, n1, c1, a2, n2, c2, a3, n3, c3, rfl, h3, hbC, hpv⟩
    refine hK.out _ _ (hbC) (fun v3 hv3 => ?_)
    clear hK K'
    have rv3 := (rv2.tr hbC).tr hv3
    have hG3 : Sl v3 a1 n1 c1 (gP p (rP p fl i) (i + 1)) := by have h := h3.g.mono hv3; rw [HFR.out] at h; exact h
    have pv1 := (hpv (by rw [HFR.out]; exact HGNE.out)).1
    have fld := fun W => fld_pb p W a1 a2 a3 n1 n2 n3 c1 c2 c3
    clear hpv h3
    try simp only [Act.put, List.setIfInBounds_toArray, List.set_cons_zero, List.set_cons_succ]
    iterate 1
      (refine heldR_quiet (v := ?_) (by rfl) ?_ ?_
       rotate_left
       · intro W hW; obtain ⟨d0, d1, d2, d3⟩ := KR.out W hW; go_simp; (try with_reducible rfl)
       try simp only [Act.put, List.setIfInBounds_toArray, List.set_cons_zero, List.set_cons_succ])
    refine heldR_nil ?_
    intro bl wz hRz hSz hGz
    obtain ⟨b9, hact, hb9, ho9⟩ := good1 hSz hGz
    rw [hact]
    have rvz := rv3.tr hRz
    have hGz2 := hG3.mono hRz
    have of9 := off_new ho9 hGz2 HCG.out
    have xb9 := box_of_obj ho9
    have g90 := xb9.cell 0 _ rfl
    have g91 := xb9.cell 1 _ rfl
    have z90 := xb9.frozen 0
    have z91 := xb9.frozen 1
    simp only [List.drop_succ_cons, List.drop_zero]
    (try simp only [Act.put, List.setIfInBounds_toArray, List.set_cons_zero, List.set_cons_succ])
    go_wp2
    refine NoPanic.normal ?_
    have hQe : Below wc.drew.heap.size wc.drew ((wz.setCell ⟨b9, 0, none⟩ (.int .u32 (p : Int))).setCell ⟨b9, 1, none⟩ (.slice a1 n1 c1)) := ((rvz.setCell (p := ⟨b9, 0, none⟩) hb9 _).setCell (p := ⟨b9, 1, none⟩) hb9 _)
    have hQf := btrans (bdrew (Below.refl _ wc)) hQe
    have xg : Box ((wz.setCell ⟨b9, 0, none⟩ (.int .u32 (p : Int))).setCell ⟨b9, 1, none⟩ (.slice a1 n1 c1)) b9 #[.int .u32 (p : Int), .slice a1 n1 c1] := xb9.put2 _ _
    have tg : Sl ((wz.setCell ⟨b9, 0, none⟩ (.int .u32 (p : Int))).setCell ⟨b9, 1, none⟩ (.slice a1 n1 c1)) a1 n1 c1 (gP p (rP p fl i) (i + 1)) := ((hGz2.setCell of9 _).setCell of9 _)
    have hst4 := HST3.out.mono hQf
    have kg := kPoly_mk (p := p) tg ((HST3.out.mono (btrans (bdrew (Below.refl _ wc)) rv2)).offs pv1)
    have L4 := hLp _ _ HLc.out (keeps_below hQf)
    have hb9' : wc.heap.size ≤ b9 := hb9
    have ltF := HST3.out.bf.lt
    have lg := tg.len
    have leg := tg.le
    have lcg := tg.cap
    have HST4 := Alg.hid hst4
    have HKG := Alg.hid kg
    have HL4 := Alg.hid L4
    have HXG := Alg.hid xg
    clear hst4 kg L4
    generalize hwd : ((wz.setCell ⟨b9, 0, none⟩ (.int .u32 (p : Int))).setCell ⟨b9, 1, none⟩ (.slice a1 n1 c1)) = wd4 at HST4 HKG HL4 HXG ⊢
    clear hwd hQe hQf of9 ho9 hG3 hGz2 rv3 rvz hv3 hbC hRz hSz hGz hact xb9 g90 g91 z90 z91 hbA hbB hsx hsx1 lsx hsu hsu2 lsu rv1 rv2 hv1 hv2 hv0 KR hsqd hsrd pv1 fld hb9 HST3 HLc xg tg HFR HSC HSL
    have n1p : 0 < n1 := by
      have h := HGM.out.1
      omega
    have hlead : nth (gP p (rP p fl i) (i + 1)) (n1 - 1) ≠ 0 := by
      have h := HGM.out.2
      rw [lg] at h
      omega
    have hsg := (kPoly_sl HKG.out).1
    have hsr := (kPoly_sl HST4.out.kr).1
    have q0 := HXG.out.cell 0 _ rfl
    have q1 := HXG.out.cell 1 _ rfl
    have q2 := HST4.out.bf.cell 0 _ rfl
    have q3 := HST4.out.bf.cell 1 _ rfl
    have HLEAD := Alg.hid hlead
    clear hlead
    gi_wp2
    refine ⟨trivial, ?_⟩
    refine (callsIn_wide.2 (deg_over p ra rn rc (rP p fl i) a1 n1 c1 (gP p (rP p fl i) (i + 1)) (p : Int) wd4 hsr hsg n1p HLEAD.out hp1 hp (by omega) (by omega))).mono ?_
    rintro e we ⟨sa, sn, sc, rfl, hss, hbe, hps⟩
    have hse := HST4.out.mono hbe
    have ks := kPoly_mk (p := p) (l := rP p fl (i + 1)) hss (HST4.out.offs hps)
    have h5 := hse.setF ks
    have hk5 := kPoly.set (kPoly.set (kPoly.mono HKG.out hbe) (r := bF) (by simp) 0 (.int .u32 (p : Int))) (r := bF) (by simp) 1 (.slice sa sn sc)
    have L5 := hLp _ _ HL4.out ((keeps_below hbe).trans ((keeps_set _ ⟨bF, 0, none⟩ (.int .u32 (p : Int))).trans (keeps_set _ ⟨bF, 1, none⟩ (.slice sa sn sc))))
    have hne9 : b9 ≠ bF := by omega
    have xg5 := ((HXG.out.mono hbe).other 0 hne9 (.int .u32 (p : Int))).other 1 hne9 (.slice sa sn sc)
    have hqpl := (frobL_ok hpr HPC.out HCR.out HRN.out 1).len
    have hrdy : PRdy p fl w 25 bO bF (i, bP) (a1, n1, c1) ((we.setCell ⟨bF, 0, none⟩ (.int .u32 (p : Int))).setCell ⟨bF, 1, none⟩ (.slice sa sn sc)) := ⟨_, _, _, _, _, _, _, _, h5, HQ.out.of_dv HDV.out, by omega, HM2.out, hk5⟩
    have f0 := hse.bf.frozen 0
    have f1 := hse.bf.frozen 1
    clear q0 q1 q2 q3
    have q0 := hse.bf.cell 0 _ rfl
    have q1 := hse.bf.cell 1 _ rfl
    have q2 := xg5.cell 0 _ rfl
    have q3 := xg5.cell 1 _ rfl
    obtain ⟨fn', tmps, assign, body, hy, hR⟩ := HY.out (i, bP) (a1, n1, c1) _ hrdy L5
    dsimp only at hy
    clear hse ks h5 hk5 L5 xg5 hrdy hss hps hbe hsg hsr
    gi_wp2
    refine hR.mono ?_
    rintro e W3 ⟨rfl, hW3, hL3⟩
    have HW3 := Alg.hid hW3
    have HL3 := Alg.hid hL3
    have m3 : outLen W3 bO = i + 1 := by
      obtain ⟨vv', _, _, _, _, _, _, _, h6, _⟩ := hW3
      unfold outLen
      rw [h6.bo.cell 0 _ rfl]
      obtain ⟨a', c', rfl, hs', _⟩ := h6.g.sl
      rfl
    clear hR hy hW3 hL3 f0 f1 q0 q1 q2 q3
    gi_wp2
    go_roundw
    case rel => exact ⟨i + 1, HW3, HL3⟩
    case measure => rw [mz, m3]; omega
theorem Tryd.infoPPd : (Tryd.prog.info? 25).map (fun i => (i.zero, i.size, i.bytes)) = some (some (.agg #[.int .u32 0, .slice none 0 0]), 2, 32) := by kernel_rfl
set_option maxRecDepth 100000 in
set_option maxHeartbeats 2000000 in
theorem deg_Parts (p : Nat) (fa : Option Addr) (fn fcap : Nat) (fl : List Nat) (w : World) (hf : Sl w fa fn fcap fl) (hpr : IsPr p) (hp : p < 4294967296) (cf : Canon p fl) (hfn : fn ≤ 900) :
    Calls Tryd.prog 14 #[.agg #[.int .u32 (p : Int), .slice fa fn fcap]] w (RetPts p fl w) := by
  haveI hne : NeZero p := ⟨by have := hpr.1; omega⟩
  have hp1 : 1 < p := hpr.1
  have hp0 : 0 < p := by omega
  obtain ⟨ip, hip, hi0, hi1, hi2⟩ := info_parts Tryd.infoPPd
  have HI := Alg.hid hip
  have HQ0 := Alg.hid hi0
  have HQ1 := Alg.hid hi1
  have HQ2 := Alg.hid hi2
  clear hip hi0 hi1 hi2
  have hbx := boxes1 w #[.int .u32 (p : Int), .slice fa fn fcap] 25
  have lf := hf.len
  have HDC := Alg.hid (dfL_ok (p := p) fl).2
  refine (callsIn_wide (n := 5)).1 ?_
  refine callsIn_of_wp_marks Tryd.func14 rfl trivial ?_ rfl
  simp only [Tryd.ntmps14, List.size_toArray, List.length_cons, List.length_nil, Nat.reduceAdd, Nat.reduceSub, Array.replicate_succ, Array.replicate_zero, List.push_toArray, List.append_toArray, List.nil_append, List.cons_append]
  gi_wp2
  generalize hW0 : w.alloc (.cells #[.int .u32 (p : Int), .slice fa fn fcap] 25) = W0 at hbx ⊢
  clear hW0
  have K : Hid (∀ W, Boxes w W [#[.int .u32 (p : Int), .slice fa fn fcap]] → W.cell? ⟨w.heap.size, 0, none⟩ = some (.int .u32 (p : Int)) ∧ W.cell? ⟨w.heap.size, 1, none⟩ = some (.slice fa fn fcap)) := fun W h => ⟨h.cell' 0 0 _ _ rfl rfl, h.cell' 0 1 _ _ rfl rfl⟩
  have hxd := hbx.drew
  refine wpIn_wide.2 ?_
  cases hm : monB fl with
  | false =>
    refine wp_region_noPanic ?_
    refine wp_region_held2 9 [(1, 0), (0, 1), (1, 2), (1, 3), (1, 4), (1, 5), (0, 6), (0, 7), (1, 8), (3, 9)] (fun W => W.cell? ⟨w.heap.size, 0, none⟩ = some (.int .u32 (p : Int)) ∧ W.cell? ⟨w.heap.size, 1, none⟩ = some (.slice fa fn fcap)) (fun _ => True) (by kernel_rfl) (by kernel_rfl) (fun _ _ _ _ _ h => h) (fun _ _ => trivial) (K.out _ hxd) (fun _ => ?_)
    simp only [pick2, List.getElem?_cons_succ, List.getElem?_cons_zero]
    iterate 1
      (refine held2_early (v := ?_) (by rfl) ?_ ?_
       rotate_left
       · intro W hSw; (try dsimp only at hSw); go_simp; (try with_reducible rfl)
       try simp only [Act.put, List.setIfInBounds_toArray, List.set_cons_zero, List.set_cons_succ])
    refine held2_loud (fun K' hK => ?_)
    go_simp
    refine (deg_monic (p : Int) fa fn fcap fl _ (hf.mono hxd.below)).mono ?_
    rintro e w1 ⟨rfl, hb1⟩
    have hx1 := hxd.mono hb1
    rw [hm]
    refine hK.out _ _ (K.out _ hx1) (fun _ => ?_)
    clear hK K'
    try simp only [Act.put, List.setIfInBounds_toArray, List.set_cons_zero, List.set_cons_succ]
    iterate 2
      (refine held2_early (v := ?_) (by rfl) ?_ ?_
       rotate_left
       · intro W hSw; (try dsimp only at hSw); go_simp; (try with_reducible rfl)
       try simp only [Act.put, List.setIfInBounds_toArray, List.set_cons_zero, List.set_cons_succ])
    iterate 2
      (refine held2_skip1 (by rfl) ?_
       try simp only [Act.put, List.setIfInBounds_toArray, List.set_cons_zero, List.set_cons_succ])
    refine held2_loud (fun K' hK => ?_)
    go_simp
    refine hK.out _ _ (K.out _ hx1) (fun _ => ?_)
    clear hK K'
    try simp only [Act.put, List.setIfInBounds_toArray, List.set_cons_zero, List.set_cons_succ]
    refine held2_loud (fun K' hK => ?_)
    go_simp
    refine hK.out _ _ (K.out _ hx1) (fun _ => ?_)
    clear hK K'
    try simp only [Act.put, List.setIfInBounds_toArray, List.set_cons_zero, List.set_cons_succ]
    iterate 1
      (refine held2_skip1 (by rfl) ?_
       try simp only [Act.put, List.setIfInBounds_toArray, List.set_cons_zero, List.set_cons_succ])
    refine held2_store (fun K' hK => ?_)
    go_simp
    refine hK.out _ _ trivial (fun _ => ?_)
    clear hK K'
    try simp only [Act.put, List.setIfInBounds_toArray, List.set_cons_zero, List.set_cons_succ]
    refine held2_nil ?_
    refine NoPanic.normal ?_
    gi_wp2
    refine ⟨_, results_tmp2 rfl _ _ _, ?_⟩
    exact Or.inr ⟨fun h => (by have := h.1; rw [hm] at this; cases this), RetPL.nil hx1.below 1⟩
  | true =>
  refine wp_region_noPanic ?_
  refine wp_region_held2 9 [(1, 0), (0, 1), (1, 2), (1, 3), (1, 4), (1, 5), (0, 6), (0, 7), (1, 8), (3, 9)] (fun W => W.cell? ⟨w.heap.size, 0, none⟩ = some (.int .u32 (p : Int)) ∧ W.cell? ⟨w.heap.size, 1, none⟩ = some (.slice fa fn fcap)) (fun _ => True) (by kernel_rfl) (by kernel_rfl) (fun _ _ _ _ _ h => h) (fun _ _ => trivial) (K.out _ hxd) (fun _ => ?_)
  simp only [pick2, List.getElem?_cons_succ, List.getElem?_cons_zero]
  iterate 1
    (refine held2_early (v := ?_) (by rfl) ?_ ?_
     rotate_left
     · intro W hSw; (try dsimp only at hSw); go_simp; (try with_reducible rfl)
     try simp only [Act.put, List.setIfInBounds_toArray, List.set_cons_zero, List.set_cons_succ])
  refine held2_loud (fun K' hK => ?_)
  go_simp
  refine (deg_monic (p : Int) fa fn fcap fl _ (hf.mono hxd.below)).mono ?_
  rintro e w1 ⟨rfl, hb1⟩
  have hx1 := hxd.mono hb1
  rw [hm]
  refine hK.out _ _ (K.out _ hx1) (fun _ => ?_)
  clear hK K'
  try simp only [Act.put, List.setIfInBounds_toArray, List.set_cons_zero, List.set_cons_succ]
  iterate 4
    (refine held2_early (v := ?_) (by rfl) ?_ ?_
     rotate_left
     · intro W hSw; (try dsimp only at hSw); go_simp; (try with_reducible rfl)
     try simp only [Act.put, List.setIfInBounds_toArray, List.set_cons_zero, List.set_cons_succ])
  refine held2_loud (fun K' hK => ?_)
  go_simp
  refine (ppoly_Diff p fa fn fcap fl _ (hf.mono hx1.below) hp0 hp (by omega)).mono ?_
  rintro e w2 ⟨da, dn, dc, rfl, hd, hb2, _⟩
  have hx2 := hx1.mono hb2
  have ld := hd.len
  have ldl := dfL_len (p := p) fl
  refine hK.out _ _ (K.out _ hx2) (fun _ => ?_)
  clear hK K'
  try simp only [Act.put, List.setIfInBounds_toArray, List.set_cons_zero, List.set_cons_succ]
  refine held2_loud (fun K' hK => ?_)
  go_simp
  refine (deg_coprime p fa fn fcap fl da dn dc (dfL p fl) w2 (hf.mono hx2.below) hd hpr hp (by omega) (by omega) cf HDC.out).mono ?_
  rintro e w3 ⟨rfl, hb3⟩
  have hx3 := hx2.mono hb3
  refine hK.out _ _ (K.out _ hx3) (fun _ => ?_)
  clear hK K'
  try simp only [Act.put, List.setIfInBounds_toArray, List.set_cons_zero, List.set_cons_succ]
  iterate 1
    (refine held2_early (v := ?_) (by rfl) ?_ ?_
     rotate_left
     · intro W hSw; (try dsimp only at hSw); go_simp; (try with_reducible rfl)
     try simp only [Act.put, List.setIfInBounds_toArray, List.set_cons_zero, List.set_cons_succ])
  refine held2_store (fun K' hK => ?_)
  go_simp
  refine hK.out _ _ trivial (fun _ => ?_)
  clear hK K'
  try simp only [Act.put, List.setIfInBounds_toArray, List.set_cons_zero, List.set_cons_succ]
  refine held2_nil ?_
  refine NoPanic.normal ?_
  by_cases hfr : ¬ (gcdL p fl (dfL p fl)).G.length = 1
  · rw [decide_eq_false hfr]
    gi_wp2
    refine ⟨_, results_tmp2 rfl _ _ _, ?_⟩
    exact Or.inr ⟨fun h => hfr h.2, RetPL.nil hx3.below 1⟩
  have hfr : (gcdL p fl (dfL p fl)).G.length = 1 := by omega
  rw [decide_eq_true hfr]
  have HOKP : Hid (okParts p fl) := ⟨hm, hfr⟩
  clear hm hfr
  have xO0 := Box.new w3 #[.slice none 0 0] 28
  have hx4 := hx3.alloc_any (.cells #[.slice none 0 0] 28)
  obtain ⟨d0, d1⟩ := K.out _ hx4
  have s3 : w.heap.size + 1 ≤ w3.heap.size := hx3.size
  gi_wp2
  refine ⟨trivial, ?_⟩
  have s4 : (w3.alloc (.cells #[.slice none 0 0] 28)).heap.size = w3.heap.size + 1 := World.size_alloc _ _
  generalize hW4 : w3.alloc (.cells #[.slice none 0 0] 28) = w4 at xO0 hx4 s4 ⊢
  clear hW4 d0 d1 hx3 hb3 hb2 hx2 hb1 hx1 hxd hbx hd
  generalize hbO : w3.heap.size = bO at xO0 s4 s3 ⊢
  clear hbO
  refine (parts_in 4 p fa fn fcap w4).mono ?_
  rintro e w' ⟨rfl, rfl⟩
  have xF0 := Box.new w4 #[.int .u32 (p : Int), .slice fa fn fcap] 25
  have xO1 := xO0.alloc (.cells #[.int .u32 (p : Int), .slice fa fn fcap] 25)
  have hx5 := hx4.alloc_any (.cells #[.int .u32 (p : Int), .slice fa fn fcap] 25)
  have s5 : (w4.alloc (.cells #[.int .u32 (p : Int), .slice fa fn fcap] 25)).heap.size = bO + 1 + 1 := by rw [World.size_alloc, s4]
  generalize hW5 : w4.alloc (.cells #[.int .u32 (p : Int), .slice fa fn fcap] 25) = w5 at xF0 xO1 hx5 s5 ⊢
  clear hW5 hx4 xO0
  rw [s4] at xF0 ⊢
  clear s4
  gi_wp2
  have HDL := Alg.hid ld
  clear ld ldl
  refine wpIn_rangeFunc_ownS rfl (by omega) (gf := 88) (lb := #[.pointer (some ⟨bO + 1, 0, none⟩)]) rfl trivial (enters_of Tryd.func88 (by kernel_rfl) rfl)
    (encs := fun x : Option Addr × Nat × Nat => #[Value.agg #[.int .u32 (p : Int), .slice x.1 x.2.1 x.2.2]]) (fun _ => rfl)
    (PR0 p w bO (bO + 1) fa fn fcap) (PFin p fl w 25 bO (bO + 1)) (PRdy p fl w 25 bO (bO + 1)) (fun s => PWnt p fl w 25 bO (bO + 1) (s.1 + 1, s.2))
    (PAsg p fl w 25 bO (bO + 1) fun bG x => { tmps := #[Value.agg #[.int .u32 (p : Int), .slice fa fn fcap], .pointer (some ⟨w.heap.size, 0, none⟩), .slice none 0 0, .int .i64 0, .pointer (some ⟨bO, 0, none⟩), .pointer (some ⟨bG, 0, none⟩), Value.agg #[.int .u32 (p : Int), .slice fa fn fcap], .bool true, .bool false, .bool false, Value.agg #[.int .u32 (p : Int), .slice fa fn fcap], Value.agg #[.int .u32 (p : Int), .slice fa fn fcap], Value.agg #[.int .u32 (p : Int), .slice da dn dc], .bool true, .bool false, .bool false, Value.agg #[.int .u32 (p : Int), .slice fa fn fcap], .func (.func 88) #[] #[.pointer (some ⟨bO + 1, 0, none⟩)], Value.agg #[.int .u32 (p : Int), .slice x.1 x.2.1 x.2.2], undef, undef, undef, undef, undef], defers := [] })
    (PR0.own (by omega) fa fn fcap) (PFin.own (by omega)) (fun s W W' row h hg hr => PWnt.own (by omega) (s.1 + 1, s.2) W W' row h hg hr) (fun s x a' => PAsg.own (by omega) _ s x a')
    (fun l Lp hLp hY W1 hR0 hL1 => parts1_in 4 (by omega) p fl w bO (bO + 1) l w5.heap.size fa fn fcap hpr hp cf hfn hf (by omega) (by omega) HOKP.out Lp hLp hY W1 hR0 hL1)
    ⟨xO1, xF0, hx5.below⟩ ?assign ?body ?done
  case assign =>
    rintro l ⟨i, bP⟩ ⟨a1, n1, c1⟩ W K' hR hsz hK'
    gi_wp2
    refine hK' _ _ (keeps_below ((Below.refl _ W).alloc (Nat.le_refl _) _)) ⟨W.heap.size, rfl, Box.new W _ _, ?_⟩
    exact OwnFrom.alloc (β := Nat × Nat) (PRdy.own (B := w5.heap.size) (by omega) (a1, n1, c1)) _ hR
  case body =>
    rintro l ⟨i, bP⟩ ⟨a1, n1, c1⟩ a' W hsz ⟨bG, rfl, xG, vv, ra, rn, rc, pa, pn, pc, pl, hst, hpw, hpl, hmore, hk⟩
    dsimp only at xG hst hpw hpl hmore hk
    have hsh : i + 1 < fl.length := by
      have := (HOKP.out.all hpr cf i).short hpr cf HOKP.out.mon (hmore i (by omega))
      exact this.1
    obtain ⟨xs, hown, hpush⟩ := hst.push hk w5.heap.size
    have q0 := hst.bo.cell 0 _ rfl
    have q1 := xG.cell 0 _ rfl
    have q2 := xG.cell 1 _ rfl
    have HOWN := Alg.hid hown
    have HPU := Alg.hid hpush
    have HPW := Alg.hid hpw
    have HMORE := Alg.hid hmore
    have t1 : i + 1 ≤ maxLen := by unfold maxLen; omega
    have t2 : (i + 1) * 32 ≤ 140737488355328 := by omega
    have Q2 : Hid (∀ u ∈ [.int .u32 (p : Int), .slice a1 n1 c1], Value.oneCell' u = true) := kPoly.cells hk
    have hbp : bP + 1 ≤ W.heap.size := hst.bp.lt
    clear hown hpush hst hk hpw hmore
    gi_wp2_with (first
      | (gi_at_builtin; refine wpListIn_append_lies _ rfl _ _ 28 rfl (bP + 1) 25 ip _ 2 32 Tryd.underlying28 HI.out HQ0.out HQ1.out HQ2.out rfl (by decide) _ i xs rfl (HOWN.out.alloc _) ⟨W.heap.size, 0, none⟩ 1 1 [.int .u32 (p : Int), .slice a1 n1 c1] rfl rfl news_two Q2.out Nat.one_pos t1 t2 (Nat.le_trans hbp (size_le_alloc _ _)) (W.heap.size + 1) (World.size_alloc _ _) ?_; intro gg cc w9 hown9 hgrow9 hat9 hlt9; obtain ⟨⟨xO9, hkp⟩, hst9⟩ := HPU.out w9 _ gg cc hown9 hgrow9 hat9; have HKP := Alg.hid hkp; have HST9 := Alg.hid hst9; clear hkp hst9; have z0 := xO9.cell 0 _ rfl; have z1 := xO9.frozen 0)
      | fail)
    exact ⟨HKP.out, _, _, _, _, _, _, _, _, HST9.out, HPW.out, hpl, HMORE.out⟩
  case done =>
    rintro D W hD ⟨i, bP, ⟨vv, ra, rn, rc, pa, pn, pc, pl, hst, hpw, hpl, hmore⟩, hlen⟩ hK
    dsimp only at hst hpw hpl hmore
    have hkept := hst.keptN (B := w5.heap.size) (by omega) (grownBy_putObj' W D (.deferred none)) (fun r e => by cases e; exact ⟨hD, _, hK, rfl⟩)
    have q0 := hst.bo.cell 0 _ rfl
    obtain ⟨va, vc, rfl, hsl, _⟩ := hkept.g.sl
    have HSL := Alg.hid hsl
    have HKB := Alg.hid hkept.below
    have HMORE := Alg.hid hmore
    clear hst hsl hkept hpw hmore
    gi_wp2
    refine ⟨by simp, .inl ⟨_, _, rfl, run_takeDeferred hK, ?_⟩⟩
    refine ⟨_, results_tmp2 rfl _ _ _, ?_⟩
    exact Or.inl ⟨HOKP.out, i, ⟨HMORE.out, hlen⟩, _, _, _, rfl, HSL.out, HKB.out⟩
end Go.Proofs.YtcbhoedifgghhaaDoor
