/- Contracts of ppoly.Frob and ref09.Frob. -/
import Derived.Test.YtcbhoedifgghhaaDoorW48
import Derived.Test.YtcbhoedifgghhaaDoorA18
open Alg Go Go.RowKit
namespace Go.Proofs.YtcbhoedifgghhaaDoor
open Go.RowKit
theorem frob_cells {w W : World} {p : Nat} {fa : Option Addr} {fn fcap : Nat} {ga : Option Addr} {gn gcap : Nat} (h : Boxes w W [#[.int .u32 (p : Int), .slice fa fn fcap], #[.int .u32 (p : Int), .slice ga gn gcap], #[.int .u32 0, .slice none 0 0]]) : W.cell? ⟨w.heap.size, 0, none⟩ = some (.int .u32 (p : Int)) ∧ W.cell? ⟨w.heap.size, 1, none⟩ = some (.slice fa fn fcap) ∧ W.cell? ⟨w.heap.size + 1, 0, none⟩ = some (.int .u32 (p : Int)) ∧ W.cell? ⟨w.heap.size + 1, 1, none⟩ = some (.slice ga gn gcap) ∧ W.cell? ⟨w.heap.size + 1 + 1, 0, none⟩ = some (.int .u32 0) ∧ W.cell? ⟨w.heap.size + 1 + 1, 1, none⟩ = some (.slice none 0 0) ∧ W.frozen? ⟨w.heap.size + 1 + 1, 0, none⟩ = false ∧ W.frozen? ⟨w.heap.size + 1 + 1, 1, none⟩ = false :=
  ⟨h.cell' 0 0 _ _ rfl rfl, h.cell' 0 1 _ _ rfl rfl, h.cell' 1 0 _ _ rfl rfl, h.cell' 1 1 _ _ rfl rfl, h.cell' 2 0 _ _ rfl rfl, h.cell' 2 1 _ _ rfl rfl, h.frozen' 2 0 (by simp), h.frozen' 2 1 (by simp)⟩
theorem ref_small (n : Nat) (w : World) (h0 : 0 < n) (hn : n < 4294967296) :
    Calls Tryd.prog 109 #[.bool false, .int .u32 (n : Int)] w (RetI false [n] w) := by
  have hq : ((n : Int) == 0) = false := by simp; omega
  have hbx := boxes1 w #[.bool false, .slice (some ⟨w.heap.size + 1, 0, none⟩) 1 1] 80
  have hz := hbx.alloc_any (.cells #[.int .u32 (n : Int)] 22)
  have hs : Sl ((w.alloc (.cells #[.bool false, .slice (some ⟨w.heap.size + 1, 0, none⟩) 1 1] 80)).alloc (.cells #[.int .u32 (n : Int)] 22)) (some ⟨w.heap.size + 1, 0, none⟩) 1 1 [n] := by
    have := sl_one (w.alloc (.cells #[.bool false, .slice (some ⟨w.heap.size + 1, 0, none⟩) 1 1] 80)) n hn 22
    rwa [World.size_alloc] at this
  go_enter Tryd.func109, Tryd.ntmps109
  go_wp2
  (try simp only [Exit.inBlock, Exit.then])
  refine bodyPost_ret (v := .agg #[.bool false, .slice (some ⟨w.heap.size + 1, 0, none⟩) 1 1]) (by simp [results, Tryd.results109, go_sem]) rfl ?_
  exact ⟨_, _, rfl, hs, hz.below, Or.inr (Or.inr ⟨_, _, _, rfl, by omega⟩)⟩
theorem ppoly_Frob_lo (p : Nat) (fa : Option Addr) (fn fcap : Nat) (ga : Option Addr) (gn gcap : Nat) (k : Int) (w : World) (hk : k < 0) :
    Calls Tryd.prog 90 #[.agg #[.int .u32 (p : Int), .slice fa fn fcap], .agg #[.int .u32 (p : Int), .slice ga gn gcap], .int .i64 k] w (RetPE 0 [] 2 w) := by
  have hbx := boxes3 w #[.int .u32 (p : Int), .slice fa fn fcap] #[.int .u32 (p : Int), .slice ga gn gcap] #[.int .u32 0, .slice none 0 0] 25 25 25
  go_enter Tryd.func90, Tryd.ntmps90
  go_upto_region 2 with fail
  generalize hW0 : (((w.alloc (.cells #[.int .u32 (p : Int), .slice fa fn fcap] 25)).alloc (.cells #[.int .u32 (p : Int), .slice ga gn gcap] 25)).alloc (.cells #[.int .u32 0, .slice none 0 0] 25)) = W0 at hbx ⊢
  clear hW0
  have d4 := hbx.cell' 2 0 _ _ rfl rfl
  have d5 := hbx.cell' 2 1 _ _ rfl rfl
  have d6 := hbx.frozen' 2 0 (by simp)
  have d7 := hbx.frozen' 2 1 (by simp)
  go_wp2
  (try simp only [Exit.inBlock, Exit.then])
  refine bodyPost_ret (v := .tuple #[.agg #[.int .u32 0, .slice none 0 0], .int .i64 2]) (by simp [results, Tryd.results90, go_sem, d4, d5]) rfl ?_
  exact retPE0 2 rfl (Alg.Below.set2 hbx.below (by omega) _ _)
theorem ppoly_Frob_hi (p : Nat) (fa : Option Addr) (fn fcap : Nat) (ga : Option Addr) (gn gcap : Nat) (k : Int) (w : World) (hk : 1000 < k) :
    Calls Tryd.prog 90 #[.agg #[.int .u32 (p : Int), .slice fa fn fcap], .agg #[.int .u32 (p : Int), .slice ga gn gcap], .int .i64 k] w (RetPE 0 [] 2 w) := by
  have hbx := boxes3 w #[.int .u32 (p : Int), .slice fa fn fcap] #[.int .u32 (p : Int), .slice ga gn gcap] #[.int .u32 0, .slice none 0 0] 25 25 25
  have hk0 : ¬ k < 0 := by omega
  go_enter Tryd.func90, Tryd.ntmps90
  go_upto_region 2 with fail
  generalize hW0 : (((w.alloc (.cells #[.int .u32 (p : Int), .slice fa fn fcap] 25)).alloc (.cells #[.int .u32 (p : Int), .slice ga gn gcap] 25)).alloc (.cells #[.int .u32 0, .slice none 0 0] 25)) = W0 at hbx ⊢
  clear hW0
  have d4 := hbx.cell' 2 0 _ _ rfl rfl
  have d5 := hbx.cell' 2 1 _ _ rfl rfl
  have d6 := hbx.frozen' 2 0 (by simp)
  have d7 := hbx.frozen' 2 1 (by simp)
  go_wp2
  (try simp only [Exit.inBlock, Exit.then])
  refine bodyPost_ret (v := .tuple #[.agg #[.int .u32 0, .slice none 0 0], .int .i64 2]) (by simp [results, Tryd.results90, go_sem, d4, d5]) rfl ?_
  exact retPE0 2 rfl (Alg.Below.set2 hbx.below (by omega) _ _)
theorem ppoly_Frob_zero (p : Nat) (fa : Option Addr) (fn fcap : Nat) (ga : Option Addr) (gcap : Nat) (k : Nat) (w : World) (hk : k ≤ 1000) :
    Calls Tryd.prog 90 #[.agg #[.int .u32 (p : Int), .slice fa fn fcap], .agg #[.int .u32 (p : Int), .slice ga 0 gcap], .int .i64 k] w (RetPE 0 [] 3 w) := by
  have hbx := boxes3 w #[.int .u32 (p : Int), .slice fa fn fcap] #[.int .u32 (p : Int), .slice ga 0 gcap] #[.int .u32 0, .slice none 0 0] 25 25 25
  have h1 : ¬ (k : Int) < 0 := by omega
  have h2 : ¬ (1000 : Int) < (k : Int) := by omega
  go_enter Tryd.func90, Tryd.ntmps90
  go_upto_region 1 with fail
  generalize hW0 : (((w.alloc (.cells #[.int .u32 (p : Int), .slice fa fn fcap] 25)).alloc (.cells #[.int .u32 (p : Int), .slice ga 0 gcap] 25)).alloc (.cells #[.int .u32 0, .slice none 0 0] 25)) = W0 at hbx ⊢
  clear hW0
  have d2 := hbx.cell' 1 0 _ _ rfl rfl
  have d3 := hbx.cell' 1 1 _ _ rfl rfl
  go_wp2_with fail
  refine (ppoly_Deg (p : Int) ga 0 gcap W0 (by omega)).mono ?_
  rintro e w2 ⟨rfl, hb2⟩
  have hx := hbx.mono hb2
  clear d2 d3
  have d4 := hx.cell' 2 0 _ _ rfl rfl
  have d5 := hx.cell' 2 1 _ _ rfl rfl
  have d6 := hx.frozen' 2 0 (by simp)
  have d7 := hx.frozen' 2 1 (by simp)
  go_wp2
  (try simp only [Exit.inBlock, Exit.then])
  refine bodyPost_ret (v := .tuple #[.agg #[.int .u32 0, .slice none 0 0], .int .i64 3]) (by simp [results, Tryd.results90, go_sem, d4, d5]) rfl ?_
  exact retPE0 3 rfl (Alg.Below.set2 hx.below (by omega) _ _)
set_option maxRecDepth 100000 in
set_option maxHeartbeats 1000000 in
theorem ppoly_Frob (p : Nat) (fa : Option Addr) (fn fcap : Nat) (fl : List Nat) (ga : Option Addr) (gn gcap : Nat) (gl : List Nat) (k : Nat) (w : World) (hf : Sl w fa fn fcap fl) (hg : Sl w ga gn gcap gl) (hpr : IsPr p) (hp : p < 4294967296) (cf : Canon p fl) (cg : Canon p gl) (hg0 : 0 < gn)
    (hfn : fn ≤ 1000000000) (hgn : gn ≤ 1000000000) (hk : k ≤ 1000) :
    Calls Tryd.prog 90 #[.agg #[.int .u32 (p : Int), .slice fa fn fcap], .agg #[.int .u32 (p : Int), .slice ga gn gcap], .int .i64 k] w (RetPE p (frobL p fl gl k) 0 w) := by
  haveI hne : NeZero p := ⟨by have := hpr.1; omega⟩
  have hp1 : 1 < p := hpr.1
  have hp0 : 0 < p := by omega
  have hgl : gl ≠ [] := fun e => by have := hg.len; rw [e] at this; simp at this; omega
  have eg := hg.len
  have hlead : nth gl (gn - 1) ≠ 0 := by
    rcases cg.top with h | h
    · exact absurd h hgl
    · rw [← eg]; exact h
  have HLEAD := Alg.hid hlead
  have FO := Alg.hid (fun j => (frobL_ok hpr cf cg hgl j).canon)
  have FL := Alg.hid (fun j => (frobL_ok hpr cf cg hgl j).len)
  have HEG := Alg.hid eg
  clear hlead hgl eg
  have h1 : ¬ (k : Int) < 0 := by omega
  have h2 : ¬ (1000 : Int) < (k : Int) := by omega
  have hgz : ((gn : Int) == 0) = false := by simp; omega
  have hbx := boxes3 w #[.int .u32 (p : Int), .slice fa fn fcap] #[.int .u32 (p : Int), .slice ga gn gcap] #[.int .u32 0, .slice none 0 0] 25 25 25
  go_enter Tryd.func90, Tryd.ntmps90
  go_upto_region 1 with fail
  generalize hW0 : (((w.alloc (.cells #[.int .u32 (p : Int), .slice fa fn fcap] 25)).alloc (.cells #[.int .u32 (p : Int), .slice ga gn gcap] 25)).alloc (.cells #[.int .u32 0, .slice none 0 0] 25)) = W0 at hbx ⊢
  clear hW0
  have K : Hid (∀ W, Boxes w W [#[.int .u32 (p : Int), .slice fa fn fcap], #[.int .u32 (p : Int), .slice ga gn gcap], #[.int .u32 0, .slice none 0 0]] → W.cell? ⟨w.heap.size, 0, none⟩ = some (.int .u32 (p : Int)) ∧ W.cell? ⟨w.heap.size, 1, none⟩ = some (.slice fa fn fcap) ∧ W.cell? ⟨w.heap.size + 1, 0, none⟩ = some (.int .u32 (p : Int)) ∧ W.cell? ⟨w.heap.size + 1, 1, none⟩ = some (.slice ga gn gcap) ∧ W.cell? ⟨w.heap.size + 1 + 1, 0, none⟩ = some (.int .u32 0) ∧ W.cell? ⟨w.heap.size + 1 + 1, 1, none⟩ = some (.slice none 0 0) ∧ W.frozen? ⟨w.heap.size + 1 + 1, 0, none⟩ = false ∧ W.frozen? ⟨w.heap.size + 1 + 1, 1, none⟩ = false) := fun W h => frob_cells h
  obtain ⟨d0, d1, d2, d3, d4, d5, d6, d7⟩ := K.out W0 hbx
  go_wp2_with fail
  refine (ppoly_Deg (p : Int) ga gn gcap W0 (by omega)).mono ?_
  rintro e w1 ⟨rfl, hb1⟩
  have hx1 := hbx.mono hb1
  clear d0 d1 d2 d3 d4 d5 d6 d7
  clear hbx hb1
  obtain ⟨d0, d1, d2, d3, d4, d5, d6, d7⟩ := K.out w1 hx1
  have hdg : ¬ (gn : Int) - 1 < 0 := by omega
  go_wp2_with fail
  refine (whole_Of_nat p w1 (by omega)).mono ?_
  rintro e w2 ⟨ia, im, rfl, hsI, hbI, _⟩
  rw [limbs_one hp0 hp] at hsI
  have hx2 := hx1.mono hbI
  clear d0 d1 d2 d3 d4 d5 d6 d7
  go_upto_region 6 with fail
  have xI := Box.new w2 #[.bool false, .slice ia im im] 80
  have hx3 := hx2.alloc_any (.cells #[.bool false, .slice ia im im] 80)
  have hsI3 := hsI.alloc (.cells #[.bool false, .slice ia im im] 80)
  have offI := hsI.off (Nat.le_refl _)
  obtain ⟨b8, hb8⟩ : ∃ b8, b8 = w2.heap.size := ⟨_, rfl⟩
  have limI : im ≤ 1000000000 := by have := hsI.len; simp at this; omega
  have l28 : w.heap.size + 3 ≤ w2.heap.size := hx2.size
  generalize hW3 : w2.alloc (.cells #[.bool false, .slice ia im im] 80) = w3 at xI hx3 hsI3 ⊢
  have s3 : w3.heap.size = w2.heap.size + 1 := by rw [← hW3, World.size_alloc]
  clear hW3
  rw [← hb8] at xI s3 l28
  have HB8 := Alg.hid hb8
  clear hb8
  obtain ⟨d0, d1, d2, d3, d4, d5, d6, d7⟩ := K.out w3 hx3
  go_wp2_with fail
  refine (ppoly_mod p fa fn fcap fl ga gn gcap gl (p : Int) w3 (hf.mono hx3.below) (hg.mono hx3.below) hg0 HLEAD.out hp1 hp (by omega) (by omega)).mono ?_
  rintro e w4 ⟨sa, sn, sc, rfl, hsS, hbS, pvS⟩
  have hx4 := hx3.mono hbS
  have xI4 := xI.mono hbS
  have hsI4 := hsI3.mono hbS
  clear d0 d1 d2 d3 d4 d5 d6 d7
  obtain ⟨b9, hb9⟩ : ∃ b9, b9 = w4.heap.size := ⟨_, rfl⟩
  have hfx := FX.new (p := p) (r := w.heap.size + 1 + 1) 25 hx4 hsS (by simp) ⟨pvS.off0 (by omega), pvS.mono (by omega)⟩ hb9
  have xI5 := xI4.alloc (.cells #[.int .u32 (p : Int), .slice sa sn sc] 25)
  have hsI5 := hsI4.alloc (.cells #[.int .u32 (p : Int), .slice sa sn sc] 25)
  have offI9 : Off ia im b9 := hsI4.off (by omega)
  have ne89 : b8 ≠ b9 := by have := xI4.lt; omega
  have HB9 := Alg.hid hb9
  clear hb9
  go_wp2
  try rw [← HB8.out]
  rw [← HB9.out]
  generalize hW5 : w4.alloc (.cells #[.int .u32 (p : Int), .slice sa sn sc] 25) = w5 at hfx xI5 hsI5 ⊢
  clear hW5 hx4 xI4 hsI4 hbS hsS pvS xI hx3 hsI3 hx2 hbI hsI hx1 offI HB8 HB9 s3 l28
  go_loopw [31] (fun v wr => ∃ i : Nat, v = .int .i64 i ∧ i ≤ k ∧ FX w wr [#[.int .u32 (p : Int), .slice fa fn fcap], #[.int .u32 (p : Int), .slice ga gn gcap], #[.int .u32 0, .slice none 0 0]] p b9 [b9, w.heap.size + 1 + 1] (frobL p fl gl i) ∧ Box wr b8 #[.bool false, .slice ia im im] ∧ Sl wr ia im im [p]) (fun v _ => k - (intOf v).toNat)
  case atStart => exact ⟨0, rfl, Nat.zero_le _, hfx, xI5, hsI5⟩
  case round =>
    clear hfx xI5 hsI5
    obtain ⟨i, rfl, hi, hW, xI, hsI⟩ := hrel
    obtain ⟨oa, on, oc, xO, sO, oO, pO⟩ := hW.one
    have bW := hW.bx
    obtain ⟨d0, d1, d2, d3, d4, d5, d6, d7⟩ := K.out wr bW
    have g0 := xO.cell 0 _ rfl
    have g1 := xO.cell 1 _ rfl
    by_cases hik : i < k
    · have s1 : (i : Int) < (k : Int) := by omega
      have i0 := xI.cell 0 _ rfl
      have i1 := xI.cell 1 _ rfl
      have fl1 := FL.out i
      have lO := sO.len
      have eg := HEG.out
      go_wp2_with fail
      refine (ppoly_PowMod p oa on oc (frobL p fl gl i) false ia im im [p] ga gn gcap gl wr sO hsI (hg.mono bW.below) hpr hp (FO.out i) cg (fun h => by cases h) hg0 (by omega) (by omega) (by omega)).mono ?_
      rw [valN_one]
      rintro e wA ⟨ra, rn, rc, rfl, hsR, hbR, pvR⟩
      have hWA := hW.mono hbR
      have xT := xO.mono hbR
      have hWE := hWA.set hsR (hW.fresh pvR) (by simp)
      have xIA := (xI.mono hbR).other2 ne89 (.int .u32 (p : Int)) (.slice ra rn rc)
      have sIA := (hsI.mono hbR).set2 offI9 (.int .u32 (p : Int)) (.slice ra rn rc)
      clear d0 d1 d2 d3 d4 d5 d6 d7 g0 g1 i0 i1
      have g0 := xT.cell 0 _ rfl
      have g1 := xT.cell 1 _ rfl
      have z0 := xT.frozen 0
      have z1 := xT.frozen 1
      go_wp2
      generalize hWF : ((wA.setCell ⟨b9, 0, none⟩ (.int .u32 (p : Int))).setCell ⟨b9, 1, none⟩ (.slice ra rn rc)) = wF at hWE xIA sIA ⊢
      clear hWF g0 g1 z0 z1
      go_roundw
      case rel => exact ⟨i + 1, by go_num, by omega, hWE, xIA, sIA⟩
      case measure => simp [intOf]; omega
    · have ei : i = k := by omega
      subst ei
      have oR := oO (w.heap.size + 1 + 1) (by simp)
      go_wp2
      (try simp only [Exit.inBlock, Exit.then])
      refine bodyPost_ret (v := .tuple #[.agg #[.int .u32 (p : Int), .slice oa on oc], .int .i64 0]) (by simp [results, Tryd.results90, go_sem, d4, d5]) rfl ?_
      exact ⟨oa, on, oc, rfl, sO.set2 oR _ _, Alg.Below.set2 bW.below (by omega) _ _, pO⟩
theorem ref_Frob_lo (p : Nat) (fa : Option Addr) (fn fcap : Nat) (ga : Option Addr) (gn gcap : Nat) (k : Int) (w : World) (hk : k < 0) :
    Calls Tryd.prog 92 #[.agg #[.int .u32 (p : Int), .slice fa fn fcap], .agg #[.int .u32 (p : Int), .slice ga gn gcap], .int .i64 k] w (RetPE 0 [] 2 w) := by
  have hbx := boxes3 w #[.int .u32 (p : Int), .slice fa fn fcap] #[.int .u32 (p : Int), .slice ga gn gcap] #[.int .u32 0, .slice none 0 0] 25 25 25
  go_enter Tryd.func92, Tryd.ntmps92
  go_upto_region 2 with fail
  generalize hW0 : (((w.alloc (.cells #[.int .u32 (p : Int), .slice fa fn fcap] 25)).alloc (.cells #[.int .u32 (p : Int), .slice ga gn gcap] 25)).alloc (.cells #[.int .u32 0, .slice none 0 0] 25)) = W0 at hbx ⊢
  clear hW0
  have d4 := hbx.cell' 2 0 _ _ rfl rfl
  have d5 := hbx.cell' 2 1 _ _ rfl rfl
  have d6 := hbx.frozen' 2 0 (by simp)
  have d7 := hbx.frozen' 2 1 (by simp)
  go_wp2
  (try simp only [Exit.inBlock, Exit.then])
  refine bodyPost_ret (v := .tuple #[.agg #[.int .u32 0, .slice none 0 0], .int .i64 2]) (by simp [results, Tryd.results92, go_sem, d4, d5]) rfl ?_
  exact retPE0 2 rfl (Alg.Below.set2 hbx.below (by omega) _ _)
theorem ref_Frob_hi (p : Nat) (fa : Option Addr) (fn fcap : Nat) (ga : Option Addr) (gn gcap : Nat) (k : Int) (w : World) (hk : 1000 < k) :
    Calls Tryd.prog 92 #[.agg #[.int .u32 (p : Int), .slice fa fn fcap], .agg #[.int .u32 (p : Int), .slice ga gn gcap], .int .i64 k] w (RetPE 0 [] 2 w) := by
  have hbx := boxes3 w #[.int .u32 (p : Int), .slice fa fn fcap] #[.int .u32 (p : Int), .slice ga gn gcap] #[.int .u32 0, .slice none 0 0] 25 25 25
  have hk0 : ¬ k < 0 := by omega
  go_enter Tryd.func92, Tryd.ntmps92
  go_upto_region 2 with fail
  generalize hW0 : (((w.alloc (.cells #[.int .u32 (p : Int), .slice fa fn fcap] 25)).alloc (.cells #[.int .u32 (p : Int), .slice ga gn gcap] 25)).alloc (.cells #[.int .u32 0, .slice none 0 0] 25)) = W0 at hbx ⊢
  clear hW0
  have d4 := hbx.cell' 2 0 _ _ rfl rfl
  have d5 := hbx.cell' 2 1 _ _ rfl rfl
  have d6 := hbx.frozen' 2 0 (by simp)
  have d7 := hbx.frozen' 2 1 (by simp)
  go_wp2
  (try simp only [Exit.inBlock, Exit.then])
  refine bodyPost_ret (v := .tuple #[.agg #[.int .u32 0, .slice none 0 0], .int .i64 2]) (by simp [results, Tryd.results92, go_sem, d4, d5]) rfl ?_
  exact retPE0 2 rfl (Alg.Below.set2 hbx.below (by omega) _ _)
theorem ref_Frob_zero (p : Nat) (fa : Option Addr) (fn fcap : Nat) (ga : Option Addr) (gcap : Nat) (k : Nat) (w : World) (hk : k ≤ 1000) :
    Calls Tryd.prog 92 #[.agg #[.int .u32 (p : Int), .slice fa fn fcap], .agg #[.int .u32 (p : Int), .slice ga 0 gcap], .int .i64 k] w (RetPE 0 [] 3 w) := by
  have hbx := boxes3 w #[.int .u32 (p : Int), .slice fa fn fcap] #[.int .u32 (p : Int), .slice ga 0 gcap] #[.int .u32 0, .slice none 0 0] 25 25 25
  have h1 : ¬ (k : Int) < 0 := by omega
  have h2 : ¬ (1000 : Int) < (k : Int) := by omega
  go_enter Tryd.func92, Tryd.ntmps92
  go_upto_region 1 with fail
  generalize hW0 : (((w.alloc (.cells #[.int .u32 (p : Int), .slice fa fn fcap] 25)).alloc (.cells #[.int .u32 (p : Int), .slice ga 0 gcap] 25)).alloc (.cells #[.int .u32 0, .slice none 0 0] 25)) = W0 at hbx ⊢
  clear hW0
  have d2 := hbx.cell' 1 0 _ _ rfl rfl
  have d3 := hbx.cell' 1 1 _ _ rfl rfl
  have d4 := hbx.cell' 2 0 _ _ rfl rfl
  have d5 := hbx.cell' 2 1 _ _ rfl rfl
  have d6 := hbx.frozen' 2 0 (by simp)
  have d7 := hbx.frozen' 2 1 (by simp)
  go_wp2
  (try simp only [Exit.inBlock, Exit.then])
  refine bodyPost_ret (v := .tuple #[.agg #[.int .u32 0, .slice none 0 0], .int .i64 3]) (by simp [results, Tryd.results92, go_sem, d4, d5]) rfl ?_
  exact retPE0 3 rfl (Alg.Below.set2 hbx.below (by omega) _ _)
set_option maxRecDepth 100000 in
set_option maxHeartbeats 1000000 in
theorem ref_Frob (p : Nat) (fa : Option Addr) (fn fcap : Nat) (fl : List Nat) (ga : Option Addr) (gn gcap : Nat) (gl : List Nat) (k : Nat) (w : World) (hf : Sl w fa fn fcap fl) (hg : Sl w ga gn gcap gl) (hpr : IsPr p) (hp : p < 4294967296) (cf : Canon p fl) (cg : Canon p gl) (hg0 : 0 < gn)
    (hfn : fn ≤ 1000000000) (hgn : gn ≤ 1000000000) (hk : k ≤ 1000) :
    Calls Tryd.prog 92 #[.agg #[.int .u32 (p : Int), .slice fa fn fcap], .agg #[.int .u32 (p : Int), .slice ga gn gcap], .int .i64 k] w (RetPE p (frobL p fl gl k) 0 w) := by
  haveI hne : NeZero p := ⟨by have := hpr.1; omega⟩
  have hp1 : 1 < p := hpr.1
  have hp0 : 0 < p := by omega
  have hgl : gl ≠ [] := fun e => by have := hg.len; rw [e] at this; simp at this; omega
  have eg := hg.len
  have hlead : nth gl (gn - 1) ≠ 0 := by
    rcases cg.top with h | h
    · exact absurd h hgl
    · rw [← eg]; exact h
  have HLEAD := Alg.hid hlead
  have FO := Alg.hid (fun j => (frobL_ok hpr cf cg hgl j).canon)
  have FL := Alg.hid (fun j => (frobL_ok hpr cf cg hgl j).len)
  have HEG := Alg.hid eg
  clear hlead hgl eg
  have h1 : ¬ (k : Int) < 0 := by omega
  have h2 : ¬ (1000 : Int) < (k : Int) := by omega
  have hgz : ((gn : Int) == 0) = false := by simp; omega
  have hbx := boxes3 w #[.int .u32 (p : Int), .slice fa fn fcap] #[.int .u32 (p : Int), .slice ga gn gcap] #[.int .u32 0, .slice none 0 0] 25 25 25
  go_enter Tryd.func92, Tryd.ntmps92
  go_upto_region 1 with fail
  generalize hW0 : (((w.alloc (.cells #[.int .u32 (p : Int), .slice fa fn fcap] 25)).alloc (.cells #[.int .u32 (p : Int), .slice ga gn gcap] 25)).alloc (.cells #[.int .u32 0, .slice none 0 0] 25)) = W0 at hbx ⊢
  clear hW0
  have K : Hid (∀ W, Boxes w W [#[.int .u32 (p : Int), .slice fa fn fcap], #[.int .u32 (p : Int), .slice ga gn gcap], #[.int .u32 0, .slice none 0 0]] → W.cell? ⟨w.heap.size, 0, none⟩ = some (.int .u32 (p : Int)) ∧ W.cell? ⟨w.heap.size, 1, none⟩ = some (.slice fa fn fcap) ∧ W.cell? ⟨w.heap.size + 1, 0, none⟩ = some (.int .u32 (p : Int)) ∧ W.cell? ⟨w.heap.size + 1, 1, none⟩ = some (.slice ga gn gcap) ∧ W.cell? ⟨w.heap.size + 1 + 1, 0, none⟩ = some (.int .u32 0) ∧ W.cell? ⟨w.heap.size + 1 + 1, 1, none⟩ = some (.slice none 0 0) ∧ W.frozen? ⟨w.heap.size + 1 + 1, 0, none⟩ = false ∧ W.frozen? ⟨w.heap.size + 1 + 1, 1, none⟩ = false) := fun W h => frob_cells h
  obtain ⟨d0, d1, d2, d3, d4, d5, d6, d7⟩ := K.out W0 hbx
  go_wp2_with fail
  refine (ref_mod p fa fn fcap fl ga gn gcap gl (p : Int) W0 (hf.mono hbx.below) (hg.mono hbx.below) hg0 hp1 hp (by omega) (by omega)).mono ?_
  rintro e w4 ⟨sa, sn, sc, rfl, hsS, hbS, pvS⟩
  have hx4 := hbx.mono hbS
  have z0 := hbx.size
  simp only [List.length_cons, List.length_nil] at z0
  clear d0 d1 d2 d3 d4 d5 d6 d7
  obtain ⟨b9, hb9⟩ : ∃ b9, b9 = w4.heap.size := ⟨_, rfl⟩
  have hfx := FX.new (p := p) (r := w.heap.size + 1 + 1) 25 hx4 hsS (by simp) ⟨pvS.off0 (by omega), pvS.mono (by omega)⟩ hb9
  have HB9 := Alg.hid hb9
  clear hb9
  go_wp2
  rw [← HB9.out]
  generalize hW5 : w4.alloc (.cells #[.int .u32 (p : Int), .slice sa sn sc] 25) = w5 at hfx ⊢
  clear hW5 hx4 hbS hsS pvS hbx HB9 z0
  go_loopw [9] (fun v wr => ∃ i : Nat, v = .int .i64 i ∧ i ≤ k ∧ FX w wr [#[.int .u32 (p : Int), .slice fa fn fcap], #[.int .u32 (p : Int), .slice ga gn gcap], #[.int .u32 0, .slice none 0 0]] p b9 [b9, w.heap.size + 1 + 1] (frobL p fl gl i)) (fun v _ => k - (intOf v).toNat)
  case atStart => exact ⟨0, rfl, Nat.zero_le _, hfx⟩
  case round =>
    clear hfx
    obtain ⟨i, rfl, hi, hW⟩ := hrel
    obtain ⟨oa, on, oc, xO, sO, oO, pO⟩ := hW.one
    have bW := hW.bx
    by_cases hik : i < k
    · have s1 : (i : Int) < (k : Int) := by omega
      have fl1 := FL.out i
      have lO := sO.len
      have eg := HEG.out
      have KB : Hid (∀ W, Below wr.heap.size wr W → W.cell? ⟨b9, 0, none⟩ = some (.int .u32 (p : Int)) ∧ W.cell? ⟨b9, 1, none⟩ = some (.slice oa on oc) ∧ W.cell? ⟨w.heap.size, 0, none⟩ = some (.int .u32 (p : Int)) ∧ W.cell? ⟨w.heap.size + 1, 0, none⟩ = some (.int .u32 (p : Int)) ∧ W.cell? ⟨w.heap.size + 1, 1, none⟩ = some (.slice ga gn gcap)) := fun W h => ⟨(xO.mono h).cell 0 _ rfl, (xO.mono h).cell 1 _ rfl, (bW.mono h).cell' 0 0 _ _ rfl rfl, (bW.mono h).cell' 1 0 _ _ rfl rfl, (bW.mono h).cell' 1 1 _ _ rfl rfl⟩
      have hR0 := bdrew (Below.refl wr.heap.size wr)
      go_wp2
      refine wp_region_noPanic ?_
      refine wp_region_held2 9 [(1, 0), (1, 1), (1, 2), (1, 4), (0, 3), (0, 5), (1, 6), (1, 7), (2, 8), (3, 9)] (fun W => W.cell? ⟨b9, 0, none⟩ = some (.int .u32 (p : Int)) ∧ W.cell? ⟨b9, 1, none⟩ = some (.slice oa on oc) ∧ W.cell? ⟨w.heap.size, 0, none⟩ = some (.int .u32 (p : Int)) ∧ W.cell? ⟨w.heap.size + 1, 0, none⟩ = some (.int .u32 (p : Int)) ∧ W.cell? ⟨w.heap.size + 1, 1, none⟩ = some (.slice ga gn gcap)) (fun _ => True) (by kernel_rfl) (by kernel_rfl) (fun _ _ _ _ _ h => h) (fun _ _ => trivial) (KB.out _ hR0) (fun _ => ?_)
      simp only [pick2, List.getElem?_cons_succ, List.getElem?_cons_zero]
      iterate 4
        (refine held2_early (v := ?_) (by rfl) ?_ ?_
         rotate_left
         · intro W hSw; (try dsimp only at hSw); go_simp; (try with_reducible rfl)
         try simp only [Act.put, List.setIfInBounds_toArray, List.set_cons_zero, List.set_cons_succ])
      refine held2_loud (fun K' hK => ?_)
      go_simp
      refine (ref_small p wr.drew hp0 hp).mono ?_
      rintro e wA ⟨ia, im, rfl, hsI, hbA, _⟩
      have hRA := btrans hR0 hbA
      have lim := hsI.len
      refine hK.out _ _ (KB.out _ hRA) (fun _ => ?_)
      clear hK K'
      try simp only [Act.put, List.setIfInBounds_toArray, List.set_cons_zero, List.set_cons_succ]
      refine held2_loud (fun K' hK => ?_)
      go_simp
      refine (ref_PowMod p oa on oc (frobL p fl gl i) ia im im [p] ga gn gcap gl wA (sO.mono hRA) hsI (hg.mono (bW.mono hRA).below) hpr hp (FO.out i) cg hg0 (by omega) (by omega) (by simp at lim; omega)).mono ?_
      rw [valN_one]
      rintro e wB ⟨ra, rn, rc, rfl, hsR, hbB, pvR⟩
      have hRB := btrans hRA hbB
      have xT := xO.mono hRB
      have g0 := xT.cell 0 _ rfl
      have g1 := xT.cell 1 _ rfl
      have z0 := xT.frozen 0
      have z1 := xT.frozen 1
      refine hK.out _ _ (KB.out _ hRB) (fun _ => ?_)
      clear hK K'
      try simp only [Act.put, List.setIfInBounds_toArray, List.set_cons_zero, List.set_cons_succ]
      iterate 2
        (refine held2_early (v := ?_) (by rfl) ?_ ?_
         rotate_left
         · intro W hSw; (try dsimp only at hSw); go_simp; (try with_reducible rfl)
         try simp only [Act.put, List.setIfInBounds_toArray, List.set_cons_zero, List.set_cons_succ])
      iterate 1
        (refine held2_quiet (v := ?_) (by rfl) ?_ ?_
         rotate_left
         · intro W hSw; go_simp; (try with_reducible rfl)
         try simp only [Act.put, List.setIfInBounds_toArray, List.set_cons_zero, List.set_cons_succ])
      refine held2_store (fun K' hK => ?_)
      go_simp
      refine hK.out _ _ trivial (fun _ => ?_)
      clear hK K'
      try simp only [Act.put, List.setIfInBounds_toArray, List.set_cons_zero, List.set_cons_succ]
      refine held2_nil ?_
      refine NoPanic.normal ?_
      have hWE := (hW.mono hRB).set hsR ((hW.mono hRA).fresh pvR) (by simp)
      generalize hWF : ((wB.setCell ⟨b9, 0, none⟩ (.int .u32 (p : Int))).setCell ⟨b9, 1, none⟩ (.slice ra rn rc)) = wF at hWE ⊢
      clear hWF g0 g1 z0 z1 xT
      go_wp2
      go_roundw
      case rel => exact ⟨i + 1, by go_num, by omega, hWE⟩
      case measure => simp [intOf]; omega
    · have ei : i = k := by omega
      subst ei
      obtain ⟨d0, d1, d2, d3, d4, d5, d6, d7⟩ := K.out wr bW
      have g0 := xO.cell 0 _ rfl
      have g1 := xO.cell 1 _ rfl
      have oR := oO (w.heap.size + 1 + 1) (by simp)
      go_wp2
      (try simp only [Exit.inBlock, Exit.then])
      refine bodyPost_ret (v := .tuple #[.agg #[.int .u32 (p : Int), .slice oa on oc], .int .i64 0]) (by simp [results, Tryd.results92, go_sem, d4, d5]) rfl ?_
      exact ⟨oa, on, oc, rfl, sO.set2 oR _ _, Alg.Below.set2 bW.below (by omega) _ _, pO⟩
end Go.Proofs.YtcbhoedifgghhaaDoor
