/- Contracts of the reference's Quo of a whole number below 0. -/
import Derived.Test.YtbnjmeeaaieicaaDoorW88
open Alg Go Go.RowKit
namespace Go.Proofs.YtbnjmeeaaieicaaDoor
open Go.RowKit
set_option maxRecDepth 100000 in
set_option maxHeartbeats 700000 in
theorem ref02_Quo_z (a : Option Addr) (n cap : Nat) (la : List Nat) (b : Option Addr) (m cap' : Nat) (lb : List Nat) (w : World) (ha : Sl w a n cap la) (hb : Sl w b m cap' lb)
    (cb : Canon 4294967296 lb) (hn : n ≤ 100000) (hm : m ≤ 100000) (hp : 0 < valN lb) (hz : valN la % valN lb = 0) :
    Calls Tryd.prog 114 #[.agg #[.bool true, .slice a n cap], .agg #[.bool false, .slice b m cap']] w (RetQ2 true (valN la / valN lb) (valN la % valN lb) w) := by
  have hbx := boxes4 w #[.bool true, .slice a n cap] #[.bool false, .slice b m cap'] #[.bool false, .slice none 0 0] #[.bool false, .slice none 0 0] 25 25 25 25
  have d01 := hbx.cell' 0 1 _ _ rfl rfl
  have d11 := hbx.cell' 1 1 _ _ rfl rfl
  obtain ⟨Q, hQ⟩ : ∃ Q, Q = valN la / valN lb := ⟨_, rfl⟩
  obtain ⟨R, hR⟩ : ∃ R, R = valN la % valN lb := ⟨_, rfl⟩
  have hlQ : (lim Q).length ≤ n := by rw [← ha.len]; exact lim_len_le ha.lt (by rw [hQ]; exact Nat.div_le_self _ _)
  have hlR : (lim R).length ≤ n := by rw [← ha.len]; exact lim_len_le ha.lt (by rw [hR]; exact Nat.mod_le _ _)
  have HQ := Alg.hid hQ
  have HR := Alg.hid hR
  have HLQ := Alg.hid hlQ
  have HLR := Alg.hid hlR
  rw [← hQ, ← hR]
  clear hQ hR hlQ hlR
  go_enter Tryd.func114, Tryd.ntmps114
  go_wp2_with fail
  generalize hW0 : ((((w.alloc (.cells #[.bool true, .slice a n cap] 25)).alloc (.cells #[.bool false, .slice b m cap'] 25)).alloc (.cells #[.bool false, .slice none 0 0] 25)).alloc (.cells #[.bool false, .slice none 0 0] 25)) = W0 at hbx d01 d11 ⊢
  clear hW0
  refine (ref01_DivMod a n cap la b m cap' lb _ (ha.mono hbx.below) (hb.mono hbx.below) cb hn hm hp).mono ?_
  rw [← HQ.out, ← HR.out]
  rintro e w1 ⟨qa, qn, qc, ra, rn, rc, rfl, hsq, hsr, hb1, hpq, hpr, _, _⟩
  have hqn : qn ≤ n := by rw [← hsq.len]; exact HLQ.out
  have hrn : rn ≤ n := by rw [← hsr.len]; exact HLR.out
  go_wp2_with fail
  refine (ref02_trim false qa qn qc (lim Q) _ hsq (by omega)).mono ?_
  rw [valN_lim]
  rintro e w2 ⟨xa, xn, xc, rfl, hsx, hb2, hpx⟩
  go_wp2_with fail
  refine (ref02_trim false ra rn rc (lim R) _ (hsr.mono hb2) (by omega)).mono ?_
  rw [valN_lim]
  rintro e w3 ⟨ya, yn, yc, rfl, hsy, hb3, hpy⟩
  have hx3 : Boxes w w3 [#[.bool true, .slice a n cap], #[.bool false, .slice b m cap'], #[.bool false, .slice none 0 0], #[.bool false, .slice none 0 0]] := ((hbx.mono hb1).mono hb2).mono hb3
  have hs30 := hx3.size
  simp only [List.length_cons, List.length_nil] at hs30
  have hs31 : w1.heap.size ≤ w2.heap.size := hb2.size
  have hs32 : w2.heap.size ≤ w3.heap.size := hb3.size
  have hs33 := ((hbx.mono hb1)).size
  simp only [List.length_cons, List.length_nil] at hs33
  have hx5 : Boxes w ((w3.alloc (.cells #[.bool (sg false xn), .slice xa xn xc] 25)).alloc (.cells #[.bool (sg false yn), .slice ya yn yc] 25)) [#[.bool true, .slice a n cap], #[.bool false, .slice b m cap'], #[.bool false, .slice none 0 0], #[.bool false, .slice none 0 0]] := (hx3.alloc_any _).alloc_any _
  have c00 : ((w3.alloc (.cells #[.bool (sg false xn), .slice xa xn xc] 25)).alloc (.cells #[.bool (sg false yn), .slice ya yn yc] 25)).cell? ⟨w.heap.size, 0, none⟩ = some (.bool true) := hx5.cell' 0 0 _ _ rfl rfl
  have c10 : ((w3.alloc (.cells #[.bool (sg false xn), .slice xa xn xc] 25)).alloc (.cells #[.bool (sg false yn), .slice ya yn yc] 25)).cell? ⟨w.heap.size + 1, 0, none⟩ = some (.bool false) := hx5.cell' 1 0 _ _ rfl rfl
  have c003 : w3.cell? ⟨w.heap.size, 0, none⟩ = some (.bool true) := hx3.cell' 0 0 _ _ rfl rfl
  have c103 : w3.cell? ⟨w.heap.size + 1, 0, none⟩ = some (.bool false) := hx3.cell' 1 0 _ _ rfl rfl
  have hne1 : ¬ w.heap.size = w3.heap.size := by omega
  have hne2 : ¬ w.heap.size = w3.heap.size + 1 := by omega
  have hne3 : ¬ w.heap.size + 1 = w3.heap.size := by omega
  clear d01 d11
  have hR0 := hz
  rw [← HR.out] at hR0
  have HR0 := Alg.hid hR0
  clear hz hR0
  have d11 := hx3.cell' 1 1 _ _ rfl rfl
  obtain ⟨WA, hWA⟩ : ∃ WA, WA = ((w3.alloc (.cells #[.bool (sg false xn), .slice xa xn xc] 25)).alloc (.cells #[.bool (sg false yn), .slice ya yn yc] 25)) := ⟨_, rfl⟩
  have hxA : Boxes w WA [#[.bool true, .slice a n cap], #[.bool false, .slice b m cap'], #[.bool false, .slice none 0 0], #[.bool false, .slice none 0 0]] := by rw [hWA]; exact hx5
  have xA : Box WA w3.heap.size #[.bool (sg false xn), .slice xa xn xc] := by rw [hWA]; exact (Box.new w3 _ _).alloc _
  have yA : Box WA (w3.heap.size + 1) #[.bool (sg false yn), .slice ya yn yc] := by rw [hWA]; exact Box.new' (w3.alloc _) _ _ (World.size_alloc _ _).symm
  have sxA : Sl WA xa xn xc (lim Q) := by rw [hWA]; exact sl_alloc (sl_alloc (hsx.mono hb3) _) _
  have syA : Sl WA ya yn yc (lim R) := by rw [hWA]; exact sl_alloc (sl_alloc hsy _) _
  have x0 := xA.cell 0 _ rfl
  have x1 := xA.cell 1 _ rfl
  rw [hWA] at x0 x1
  have hxn : xn ≤ n := by rw [← hsx.len]; exact HLQ.out
  have hyn : yn ≤ n := by rw [← hsy.len]; exact HLR.out
  have oyX : Off ya yn w3.heap.size := hsy.off (Nat.le_refl _)
  go_wp2_with fail
  rw [← hWA]
  clear x0 x1 hWA hsq hsr hsx hsy d11
  refine (ref02_Neg (sg false xn) xa xn xc (lim Q) WA sxA (by omega)).mono ?_
  rw [valN_lim, sg_f]
  rintro e w4 ⟨za, zn, zc, rfl, hsz, hb4, hpz⟩
  simp only [Bool.not_false] at *
  have hx4 := hxA.mono hb4
  have x4 := xA.mono hb4
  have y4 := yA.mono hb4
  have sy4 := syA.mono hb4
  have sb4 := hb.mono hx4.below
  have ltX := xA.lt
  have ltY := yA.lt
  have ozX : Off za zn w3.heap.size := hpz.off0 ltX
  have ozY : Off za zn (w3.heap.size + 1) := hpz.off0 ltY
  have f0 := x4.frozen 0
  have f1 := x4.frozen 1
  have x0 := x4.cell 0 _ rfl
  have x1 := x4.cell 1 _ rfl
  have nXY : w3.heap.size ≠ w3.heap.size + 1 := by omega
  have hgX : w.heap.size + 4 ≤ w3.heap.size := by omega
  have hx6 := (hx4.setCell (g := w3.heap.size) (i := 0) hgX (.bool (sg true zn))).setCell (g := w3.heap.size) (i := 1) hgX (.slice za zn zc)
  have x6 := x4.put2 (.bool (sg true zn)) (.slice za zn zc)
  have y6 := (y4.other 0 nXY.symm (.bool (sg true zn))).other 1 nXY.symm (.slice za zn zc)
  have sz6 := (hsz.setCell ozX (i := 0) (.bool (sg true zn))).setCell ozX (i := 1) (.slice za zn zc)
  have sy6 := (sy4.setCell oyX (i := 0) (.bool (sg true zn))).setCell oyX (i := 1) (.slice za zn zc)
  have hzn : zn ≤ n := by rw [← hsz.len]; exact HLQ.out
  have lyR := sy4.len
  have y0 := y6.cell 0 _ rfl
  have y1 := y6.cell 1 _ rfl
  rw [sg_f] at y0
  have SZ6 := Alg.hid sz6
  have SY6 := Alg.hid sy6
  have HX6 := Alg.hid hx6
  have X6 := Alg.hid x6
  have Y6 := Alg.hid y6
  clear xA yA sxA syA hxA x4 y4 sy4 hsz sb4 sz6 sy6 hx6 x6 y6 hx4
  go_wp2_with fail
  generalize hWB : ((w4.setCell ⟨w3.heap.size, 0, none⟩ (.bool (sg true zn))).setCell ⟨w3.heap.size, 1, none⟩ (.slice za zn zc)) = WB at SZ6 SY6 HX6 X6 Y6 y0 y1 ⊢
  clear hWB f0 f1 x0 x1 y0 y1
  refine (ref02_Sign false ya yn yc WB).mono ?_
  rintro e WE ⟨rfl, hb5⟩
  have hxE := HX6.out.mono hb5
  have xX := X6.out.mono hb5
  have xY := Y6.out.mono hb5
  have sX := SZ6.out.mono hb5
  have sY := SY6.out.mono hb5
  clear SZ6 SY6 HX6 X6 Y6 hb5
  have hy0 : yn = 0 := by rw [← lyR, HR0.out, lim_zero]; rfl
  subst hy0
  have hsg : ¬ signN false 0 > 0 := by decide
  have hsg' : (signN false 0) = 0 := rfl
  rw [hsg']
  have b0 : WE.cell? ⟨w.heap.size + 1, 0, none⟩ = some (.bool false) := hxE.cell' 1 0 _ _ rfl rfl
  have lwA : w3.heap.size + 2 ≤ WA.heap.size := by omega
  have oX2 : Off za zn (w.heap.size + 1 + 1) := hpz.off0 (by omega)
  have oX3 : Off za zn (w.heap.size + 1 + 1 + 1) := hpz.off0 (by omega)
  have oY2 : Off ya 0 (w.heap.size + 1 + 1) := hpy.off0 (by omega)
  have oY3 : Off ya 0 (w.heap.size + 1 + 1 + 1) := hpy.off0 (by omega)
  have pX : Prov w [] za zn := hpz.mono (by omega)
  have pY : Prov w [] ya 0 := hpy.mono (by omega)
  go_wp2
  clear b0
  have KD : Hid (∀ W, (Box W w3.heap.size #[.bool (sg true zn), .slice za zn zc] ∧ Box W (w3.heap.size + 1) #[.bool (sg false 0), .slice ya 0 yc]) → W.cell? ⟨w3.heap.size, 0, none⟩ = some (.bool (sg true zn)) ∧ W.cell? ⟨w3.heap.size, 1, none⟩ = some (.slice za zn zc) ∧ W.cell? ⟨w3.heap.size + 1, 0, none⟩ = some (.bool (sg false 0)) ∧ W.cell? ⟨w3.heap.size + 1, 1, none⟩ = some (.slice ya 0 yc) ∧ (Box W w3.heap.size #[.bool (sg true zn), .slice za zn zc] ∧ Box W (w3.heap.size + 1) #[.bool (sg false 0), .slice ya 0 yc])) := fun W h => ⟨h.1.cell 0 _ rfl, h.1.cell 1 _ rfl, h.2.cell 0 _ rfl, h.2.cell 1 _ rfl, h⟩
  have nX2 : w3.heap.size ≠ w.heap.size + 1 + 1 := by omega
  have nX3 : w3.heap.size ≠ w.heap.size + 1 + 1 + 1 := by omega
  have nY2 : w3.heap.size + 1 ≠ w.heap.size + 1 + 1 := by omega
  have nY3 : w3.heap.size + 1 ≠ w.heap.size + 1 + 1 + 1 := by omega
  have HX0 : Hid (Box WE.drew w3.heap.size #[.bool (sg true zn), .slice za zn zc]) := xX.drew
  have HY0 : Hid (Box WE.drew (w3.heap.size + 1) #[.bool (sg false 0), .slice ya 0 yc]) := xY.drew
  have hxz := hxE
  have e20 : WE.cell? ⟨w.heap.size + 1 + 1, 0, none⟩ = some (.bool false) := hxz.cell' 2 0 _ _ rfl rfl
  have e21 : WE.cell? ⟨w.heap.size + 1 + 1, 1, none⟩ = some (.slice none 0 0) := hxz.cell' 2 1 _ _ rfl rfl
  have e30 : WE.cell? ⟨w.heap.size + 1 + 1 + 1, 0, none⟩ = some (.bool false) := hxz.cell' 3 0 _ _ rfl rfl
  have e31 : WE.cell? ⟨w.heap.size + 1 + 1 + 1, 1, none⟩ = some (.slice none 0 0) := hxz.cell' 3 1 _ _ rfl rfl
  have f20 : WE.frozen? ⟨w.heap.size + 1 + 1, 0, none⟩ = false := hxz.frozen' 2 0 (by simp)
  have f21 : WE.frozen? ⟨w.heap.size + 1 + 1, 1, none⟩ = false := hxz.frozen' 2 1 (by simp)
  have f30 : WE.frozen? ⟨w.heap.size + 1 + 1 + 1, 0, none⟩ = false := hxz.frozen' 3 0 (by simp)
  have f31 : WE.frozen? ⟨w.heap.size + 1 + 1 + 1, 1, none⟩ = false := hxz.frozen' 3 1 (by simp)
  have sXz := sX.drew
  have sYz := sY.drew
  clear xX xY hxE hx5 hx3 c00 c10 c003 c103 sX sY
  go_region_held3 (fun W => W.cell? ⟨w3.heap.size, 0, none⟩ = some (.bool (sg true zn)) ∧ W.cell? ⟨w3.heap.size, 1, none⟩ = some (.slice za zn zc) ∧ W.cell? ⟨w3.heap.size + 1, 0, none⟩ = some (.bool (sg false 0)) ∧ W.cell? ⟨w3.heap.size + 1, 1, none⟩ = some (.slice ya 0 yc) ∧ (Box W w3.heap.size #[.bool (sg true zn), .slice za zn zc] ∧ Box W (w3.heap.size + 1) #[.bool (sg false 0), .slice ya 0 yc]))
    (first
      | (exact KD.out _ ⟨HX0.out, HY0.out⟩)
      | (exact KD.out _ ⟨(HX0.out.other 0 nX2 _).other 1 nX2 _, (HY0.out.other 0 nY2 _).other 1 nY2 _⟩)
      | (exact KD.out _ ⟨(((HX0.out.other 0 nX2 _).other 1 nX2 _).other 0 nX3 _).other 1 nX3 _, (((HY0.out.other 0 nY2 _).other 1 nY2 _).other 0 nY3 _).other 1 nY3 _⟩))
    (fail)
  go_wp2
  (try simp only [Exit.inBlock, Exit.then])
  refine bodyPost_ret (v := .tuple #[.agg #[.bool (sg true zn), .slice za zn zc], .agg #[.bool (sg false 0), .slice ya 0 yc]]) (by simp [results, Tryd.results114, go_sem, e20, e21, e30, e31]) rfl ?_
  exact ⟨_, _, _, _, _, _, rfl, (((sXz.setCell oX2 _).setCell oX2 _).setCell oX3 _).setCell oX3 _, (((sYz.setCell oY2 _).setCell oY2 _).setCell oY3 _).setCell oY3 _,
    ((((hxz.below.setCell (p := ⟨w.heap.size + 1 + 1, 0, none⟩) (by simp; omega) (.bool (sg true zn))).setCell (p := ⟨w.heap.size + 1 + 1, 1, none⟩) (by simp; omega) (.slice za zn zc)).setCell (p := ⟨w.heap.size + 1 + 1 + 1, 0, none⟩) (by simp; omega) (.bool (sg false 0))).setCell (p := ⟨w.heap.size + 1 + 1 + 1, 1, none⟩) (by simp; omega) (.slice ya 0 yc)).trans ⟨rfl, rfl, rfl, Nat.le_refl _, fun _ _ => rfl⟩,
    pX, pY⟩
set_option maxRecDepth 100000 in
set_option maxHeartbeats 700000 in
theorem ref02_Quo_n (a : Option Addr) (n cap : Nat) (la : List Nat) (b : Option Addr) (m cap' : Nat) (lb : List Nat) (w : World) (ha : Sl w a n cap la) (hb : Sl w b m cap' lb)
    (cb : Canon 4294967296 lb) (hn : n ≤ 100000) (hm : m ≤ 100000) (hp : 0 < valN lb) (hz : ¬ valN la % valN lb = 0) :
    Calls Tryd.prog 114 #[.agg #[.bool true, .slice a n cap], .agg #[.bool false, .slice b m cap']] w (RetQ2 true (valN la / valN lb + 1) (valN lb - valN la % valN lb) w) := by
  have hbx := boxes4 w #[.bool true, .slice a n cap] #[.bool false, .slice b m cap'] #[.bool false, .slice none 0 0] #[.bool false, .slice none 0 0] 25 25 25 25
  have d01 := hbx.cell' 0 1 _ _ rfl rfl
  have d11 := hbx.cell' 1 1 _ _ rfl rfl
  obtain ⟨Q, hQ⟩ : ∃ Q, Q = valN la / valN lb := ⟨_, rfl⟩
  obtain ⟨R, hR⟩ : ∃ R, R = valN la % valN lb := ⟨_, rfl⟩
  have hlQ : (lim Q).length ≤ n := by rw [← ha.len]; exact lim_len_le ha.lt (by rw [hQ]; exact Nat.div_le_self _ _)
  have hlR : (lim R).length ≤ n := by rw [← ha.len]; exact lim_len_le ha.lt (by rw [hR]; exact Nat.mod_le _ _)
  have HQ := Alg.hid hQ
  have HR := Alg.hid hR
  have HLQ := Alg.hid hlQ
  have HLR := Alg.hid hlR
  rw [← hQ, ← hR]
  clear hQ hR hlQ hlR
  go_enter Tryd.func114, Tryd.ntmps114
  go_wp2_with fail
  generalize hW0 : ((((w.alloc (.cells #[.bool true, .slice a n cap] 25)).alloc (.cells #[.bool false, .slice b m cap'] 25)).alloc (.cells #[.bool false, .slice none 0 0] 25)).alloc (.cells #[.bool false, .slice none 0 0] 25)) = W0 at hbx d01 d11 ⊢
  clear hW0
  refine (ref01_DivMod a n cap la b m cap' lb _ (ha.mono hbx.below) (hb.mono hbx.below) cb hn hm hp).mono ?_
  rw [← HQ.out, ← HR.out]
  rintro e w1 ⟨qa, qn, qc, ra, rn, rc, rfl, hsq, hsr, hb1, hpq, hpr, _, _⟩
  have hqn : qn ≤ n := by rw [← hsq.len]; exact HLQ.out
  have hrn : rn ≤ n := by rw [← hsr.len]; exact HLR.out
  go_wp2_with fail
  refine (ref02_trim false qa qn qc (lim Q) _ hsq (by omega)).mono ?_
  rw [valN_lim]
  rintro e w2 ⟨xa, xn, xc, rfl, hsx, hb2, hpx⟩
  go_wp2_with fail
  refine (ref02_trim false ra rn rc (lim R) _ (hsr.mono hb2) (by omega)).mono ?_
  rw [valN_lim]
  rintro e w3 ⟨ya, yn, yc, rfl, hsy, hb3, hpy⟩
  have hx3 : Boxes w w3 [#[.bool true, .slice a n cap], #[.bool false, .slice b m cap'], #[.bool false, .slice none 0 0], #[.bool false, .slice none 0 0]] := ((hbx.mono hb1).mono hb2).mono hb3
  have hs30 := hx3.size
  simp only [List.length_cons, List.length_nil] at hs30
  have hs31 : w1.heap.size ≤ w2.heap.size := hb2.size
  have hs32 : w2.heap.size ≤ w3.heap.size := hb3.size
  have hs33 := ((hbx.mono hb1)).size
  simp only [List.length_cons, List.length_nil] at hs33
  have hx5 : Boxes w ((w3.alloc (.cells #[.bool (sg false xn), .slice xa xn xc] 25)).alloc (.cells #[.bool (sg false yn), .slice ya yn yc] 25)) [#[.bool true, .slice a n cap], #[.bool false, .slice b m cap'], #[.bool false, .slice none 0 0], #[.bool false, .slice none 0 0]] := (hx3.alloc_any _).alloc_any _
  have c00 : ((w3.alloc (.cells #[.bool (sg false xn), .slice xa xn xc] 25)).alloc (.cells #[.bool (sg false yn), .slice ya yn yc] 25)).cell? ⟨w.heap.size, 0, none⟩ = some (.bool true) := hx5.cell' 0 0 _ _ rfl rfl
  have c10 : ((w3.alloc (.cells #[.bool (sg false xn), .slice xa xn xc] 25)).alloc (.cells #[.bool (sg false yn), .slice ya yn yc] 25)).cell? ⟨w.heap.size + 1, 0, none⟩ = some (.bool false) := hx5.cell' 1 0 _ _ rfl rfl
  have c003 : w3.cell? ⟨w.heap.size, 0, none⟩ = some (.bool true) := hx3.cell' 0 0 _ _ rfl rfl
  have c103 : w3.cell? ⟨w.heap.size + 1, 0, none⟩ = some (.bool false) := hx3.cell' 1 0 _ _ rfl rfl
  have hne1 : ¬ w.heap.size = w3.heap.size := by omega
  have hne2 : ¬ w.heap.size = w3.heap.size + 1 := by omega
  have hne3 : ¬ w.heap.size + 1 = w3.heap.size := by omega
  clear d01 d11
  have hR0 := hz
  rw [← HR.out] at hR0
  have HR0 := Alg.hid hR0
  clear hz hR0
  have d11 := hx3.cell' 1 1 _ _ rfl rfl
  obtain ⟨WA, hWA⟩ : ∃ WA, WA = ((w3.alloc (.cells #[.bool (sg false xn), .slice xa xn xc] 25)).alloc (.cells #[.bool (sg false yn), .slice ya yn yc] 25)) := ⟨_, rfl⟩
  have hxA : Boxes w WA [#[.bool true, .slice a n cap], #[.bool false, .slice b m cap'], #[.bool false, .slice none 0 0], #[.bool false, .slice none 0 0]] := by rw [hWA]; exact hx5
  have xA : Box WA w3.heap.size #[.bool (sg false xn), .slice xa xn xc] := by rw [hWA]; exact (Box.new w3 _ _).alloc _
  have yA : Box WA (w3.heap.size + 1) #[.bool (sg false yn), .slice ya yn yc] := by rw [hWA]; exact Box.new' (w3.alloc _) _ _ (World.size_alloc _ _).symm
  have sxA : Sl WA xa xn xc (lim Q) := by rw [hWA]; exact sl_alloc (sl_alloc (hsx.mono hb3) _) _
  have syA : Sl WA ya yn yc (lim R) := by rw [hWA]; exact sl_alloc (sl_alloc hsy _) _
  have x0 := xA.cell 0 _ rfl
  have x1 := xA.cell 1 _ rfl
  rw [hWA] at x0 x1
  have hxn : xn ≤ n := by rw [← hsx.len]; exact HLQ.out
  have hyn : yn ≤ n := by rw [← hsy.len]; exact HLR.out
  have oyX : Off ya yn w3.heap.size := hsy.off (Nat.le_refl _)
  go_wp2_with fail
  rw [← hWA]
  clear x0 x1 hWA hsq hsr hsx hsy d11
  refine (ref02_Neg (sg false xn) xa xn xc (lim Q) WA sxA (by omega)).mono ?_
  rw [valN_lim, sg_f]
  rintro e w4 ⟨za, zn, zc, rfl, hsz, hb4, hpz⟩
  simp only [Bool.not_false] at *
  have hx4 := hxA.mono hb4
  have x4 := xA.mono hb4
  have y4 := yA.mono hb4
  have sy4 := syA.mono hb4
  have sb4 := hb.mono hx4.below
  have ltX := xA.lt
  have ltY := yA.lt
  have ozX : Off za zn w3.heap.size := hpz.off0 ltX
  have ozY : Off za zn (w3.heap.size + 1) := hpz.off0 ltY
  have f0 := x4.frozen 0
  have f1 := x4.frozen 1
  have x0 := x4.cell 0 _ rfl
  have x1 := x4.cell 1 _ rfl
  have nXY : w3.heap.size ≠ w3.heap.size + 1 := by omega
  have hgX : w.heap.size + 4 ≤ w3.heap.size := by omega
  have hx6 := (hx4.setCell (g := w3.heap.size) (i := 0) hgX (.bool (sg true zn))).setCell (g := w3.heap.size) (i := 1) hgX (.slice za zn zc)
  have x6 := x4.put2 (.bool (sg true zn)) (.slice za zn zc)
  have y6 := (y4.other 0 nXY.symm (.bool (sg true zn))).other 1 nXY.symm (.slice za zn zc)
  have sz6 := (hsz.setCell ozX (i := 0) (.bool (sg true zn))).setCell ozX (i := 1) (.slice za zn zc)
  have sy6 := (sy4.setCell oyX (i := 0) (.bool (sg true zn))).setCell oyX (i := 1) (.slice za zn zc)
  have hzn : zn ≤ n := by rw [← hsz.len]; exact HLQ.out
  have lyR := sy4.len
  have y0 := y6.cell 0 _ rfl
  have y1 := y6.cell 1 _ rfl
  rw [sg_f] at y0
  have SZ6 := Alg.hid sz6
  have SY6 := Alg.hid sy6
  have HX6 := Alg.hid hx6
  have X6 := Alg.hid x6
  have Y6 := Alg.hid y6
  clear xA yA sxA syA hxA x4 y4 sy4 hsz sb4 sz6 sy6 hx6 x6 y6 hx4
  go_wp2_with fail
  generalize hWB : ((w4.setCell ⟨w3.heap.size, 0, none⟩ (.bool (sg true zn))).setCell ⟨w3.heap.size, 1, none⟩ (.slice za zn zc)) = WB at SZ6 SY6 HX6 X6 Y6 y0 y1 ⊢
  clear hWB f0 f1 x0 x1 y0 y1
  refine (ref02_Sign false ya yn yc WB).mono ?_
  rintro e w5 ⟨rfl, hb5⟩
  have hxE := HX6.out.mono hb5
  have xX := X6.out.mono hb5
  have xY := Y6.out.mono hb5
  have sX := SZ6.out.mono hb5
  have sY := SY6.out.mono hb5
  clear SZ6 SY6 HX6 X6 Y6 hb5
  have hy0 : 0 < yn := by
    rw [← lyR]
    exact List.length_pos_iff.2 (lim_ne HR0.out)
  have hsg : signN false yn = 1 := by unfold signN; rw [if_neg (by omega)]; rfl
  rw [hsg]
  have lbB : Hid (lim (valN lb) = lb) := lim_valN cb
  have hRB : Hid (R < valN lb) := by show _ < _; rw [HR.out]; exact Nat.mod_lt _ hp
  rw [sg_f] at xY
  have KB : Hid (∀ W, Below w5.drew.heap.size w5.drew W → W.cell? ⟨w3.heap.size, 0, none⟩ = some (.bool (sg true zn)) ∧ W.cell? ⟨w3.heap.size, 1, none⟩ = some (.slice za zn zc)) := fun W h => ⟨(xX.drew.mono h).cell 0 _ rfl, (xX.drew.mono h).cell 1 _ rfl⟩
  have hR0' : Below w5.drew.heap.size w5.drew w5.drew := Below.refl _ _
  have sXd := sX.drew
  go_upto_region 6 with fail
  refine wp_region_noPanic ?_
  refine wp_region_held2 3 [(1, 0), (0, 1), (0, 2), (3, 3)] (fun W => W.cell? ⟨w3.heap.size, 0, none⟩ = some (.bool (sg true zn)) ∧ W.cell? ⟨w3.heap.size, 1, none⟩ = some (.slice za zn zc)) (fun _ => True) (by kernel_rfl) (by kernel_rfl) (fun _ _ _ _ _ h => h) (fun _ _ => trivial) (KB.out _ hR0') (fun _ => ?_)
  simp only [pick2, List.getElem?_cons_succ, List.getElem?_cons_zero]
  iterate 1
    (refine held2_early (v := ?_) (by rfl) ?_ ?_
     rotate_left
     · intro W hSw; (try dsimp only at hSw); go_simp; (try with_reducible rfl)
     try simp only [Act.put, List.setIfInBounds_toArray, List.set_cons_zero, List.set_cons_succ])
  refine held2_loud (fun K' hK => ?_)
  go_simp
  refine (ref02_Of_nn 1 w5.drew (by decide)).mono ?_
  rintro e w6 ⟨oa, on, oc, rfl, hso, hb6, _⟩
  rw [sg_f]
  refine hK.out _ _ (KB.out _ hb6) (fun _ => ?_)
  clear hK K'
  try simp only [Act.put, List.setIfInBounds_toArray, List.set_cons_zero, List.set_cons_succ]
  refine held2_loud (fun K' hK => ?_)
  go_simp
  refine (ref02_Sub_one Q za zn zc oa on oc w6 (sXd.mono hb6) hso (by omega)).mono ?_
  rintro e w7 ⟨va, vn, vc, rfl, hsv, hb7, hpv⟩
  have r7 := btrans hb6 hb7
  have x7 := xX.drew.mono r7
  have g0 := x7.frozen 0
  have g1 := x7.frozen 1
  refine hK.out _ _ (KB.out _ r7) (fun _ => ?_)
  clear hK K'
  try simp only [Act.put, List.setIfInBounds_toArray, List.set_cons_zero, List.set_cons_succ]
  refine held2_store (fun K' hK => ?_)
  go_simp
  refine hK.out _ _ trivial (fun _ => ?_)
  clear hK K'
  try simp only [Act.put, List.setIfInBounds_toArray, List.set_cons_zero, List.set_cons_succ]
  refine held2_nil ?_
  refine NoPanic.normal ?_
  have hb57 := btrans (bdrew (Below.refl _ w5)) r7
  have hx7 := hxE.mono hb57
  have y7 := xY.mono hb57
  have sy7 := sY.mono hb57
  have ltX5 := xX.lt
  have ltY5 := xY.lt
  have ovX : Off va vn w3.heap.size := hpv.off0 (by have := hb6.size; have h2 : w5.drew.heap.size = w5.heap.size := rfl; omega)
  have ovY : Off va vn (w3.heap.size + 1) := hpv.off0 (by have := hb6.size; have h2 : w5.drew.heap.size = w5.heap.size := rfl; omega)
  have hx8 := (hx7.setCell (g := w3.heap.size) (i := 0) hgX (.bool (sg true vn))).setCell (g := w3.heap.size) (i := 1) hgX (.slice va vn vc)
  have x8 := x7.put2 (.bool (sg true vn)) (.slice va vn vc)
  have y8 := (y7.other 0 nXY.symm (.bool (sg true vn))).other 1 nXY.symm (.slice va vn vc)
  have sv8 := (hsv.setCell ovX (i := 0) (.bool (sg true vn))).setCell ovX (i := 1) (.slice va vn vc)
  have sy8 := (sy7.setCell oyX (i := 0) (.bool (sg true vn))).setCell oyX (i := 1) (.slice va vn vc)
  have ltw8 : w5.heap.size ≤ ((w7.setCell ⟨w3.heap.size, 0, none⟩ (.bool (sg true vn))).setCell ⟨w3.heap.size, 1, none⟩ (.slice va vn vc)).heap.size := by
    have : ((w7.setCell ⟨w3.heap.size, 0, none⟩ (.bool (sg true vn))).setCell ⟨w3.heap.size, 1, none⟩ (.slice va vn vc)).heap.size = w7.heap.size := by simp only [World.setCell, Array.size_modify]
    have h2 := hb57.size
    omega
  have ltw6 : w5.heap.size ≤ w6.heap.size := by have := hb6.size; have h2 : w5.drew.heap.size = w5.heap.size := rfl; omega
  have HX8 := Alg.hid hx8
  have X8 := Alg.hid x8
  have Y8 := Alg.hid y8
  have SV8 := Alg.hid sv8
  have SY8 := Alg.hid sy8
  clear KB sXd hx7 y7 sy7 x7 hx8 x8 y8 sv8 sy8 hsv hso g0 g1 hb57 r7 hb7 xX xY sX sY hxE hR0'
  go_upto_region 7 with fail
  generalize hW8 : ((w7.setCell ⟨w3.heap.size, 0, none⟩ (.bool (sg true vn))).setCell ⟨w3.heap.size, 1, none⟩ (.slice va vn vc)) = w8 at HX8 X8 Y8 SV8 SY8 ltw8 ⊢
  clear hW8
  have KC : Hid (∀ W, Below w8.drew.heap.size w8.drew W → W.cell? ⟨w.heap.size + 1, 0, none⟩ = some (.bool false) ∧ W.cell? ⟨w.heap.size + 1, 1, none⟩ = some (.slice b m cap') ∧ W.cell? ⟨w3.heap.size + 1, 0, none⟩ = some (.bool false) ∧ W.cell? ⟨w3.heap.size + 1, 1, none⟩ = some (.slice ya yn yc)) := fun W h => ⟨(HX8.out.drew.mono h).cell' 1 0 _ _ rfl rfl, (HX8.out.drew.mono h).cell' 1 1 _ _ rfl rfl, (Y8.out.drew.mono h).cell 0 _ rfl, (Y8.out.drew.mono h).cell 1 _ rfl⟩
  have hR1 : Below w8.drew.heap.size w8.drew w8.drew := Below.refl _ _
  have sbd := hb.mono HX8.out.drew.below
  have syd := SY8.out.drew
  refine wp_region_noPanic ?_
  refine wp_region_held2 4 [(1, 0), (1, 2), (0, 1), (0, 3), (3, 4)] (fun W => W.cell? ⟨w.heap.size + 1, 0, none⟩ = some (.bool false) ∧ W.cell? ⟨w.heap.size + 1, 1, none⟩ = some (.slice b m cap') ∧ W.cell? ⟨w3.heap.size + 1, 0, none⟩ = some (.bool false) ∧ W.cell? ⟨w3.heap.size + 1, 1, none⟩ = some (.slice ya yn yc)) (fun _ => True) (by kernel_rfl) (by kernel_rfl) (fun _ _ _ _ _ h => h) (fun _ _ => trivial) (KC.out _ hR1) (fun _ => ?_)
  simp only [pick2, List.getElem?_cons_succ, List.getElem?_cons_zero]
  iterate 2
    (refine held2_early (v := ?_) (by rfl) ?_ ?_
     rotate_left
     · intro W hSw; (try dsimp only at hSw); go_simp; (try with_reducible rfl)
     try simp only [Act.put, List.setIfInBounds_toArray, List.set_cons_zero, List.set_cons_succ])
  refine held2_loud (fun K' hK => ?_)
  go_simp
  refine (ref02_Abs false b m cap' lb w8.drew sbd (by omega)).mono ?_
  rintro e w9 ⟨ba, bn, bc, rfl, hsb, hb9, _⟩
  rw [sg_f]
  refine hK.out _ _ (KC.out _ hb9) (fun _ => ?_)
  clear hK K'
  try simp only [Act.put, List.setIfInBounds_toArray, List.set_cons_zero, List.set_cons_succ]
  refine held2_loud (fun K' hK => ?_)
  go_simp
  refine (ref02_Sub_le (valN lb) R ba bn bc ya yn yc w9 hsb (syd.mono hb9) (by have h1 := hsb.len; rw [lbB.out, hb.len] at h1; omega) (Nat.pos_of_ne_zero HR0.out) (Nat.le_of_lt hRB.out)).mono ?_
  rintro e w10 ⟨ta, tn, tc, rfl, hst, hb10, hpt⟩
  have r10 := btrans hb9 hb10
  have y10 := Y8.out.drew.mono r10
  have g0 := y10.frozen 0
  have g1 := y10.frozen 1
  refine hK.out _ _ (KC.out _ r10) (fun _ => ?_)
  clear hK K'
  try simp only [Act.put, List.setIfInBounds_toArray, List.set_cons_zero, List.set_cons_succ]
  refine held2_store (fun K' hK => ?_)
  go_simp
  refine hK.out _ _ trivial (fun _ => ?_)
  clear hK K'
  try simp only [Act.put, List.setIfInBounds_toArray, List.set_cons_zero, List.set_cons_succ]
  refine held2_nil ?_
  refine NoPanic.normal ?_
  have hb810 := btrans (bdrew (Below.refl _ w8)) r10
  have ltw9 : w8.heap.size ≤ w9.heap.size := by have := hb9.size; have h2 : w8.drew.heap.size = w8.heap.size := rfl; omega
  have otY : Off ta tn (w3.heap.size + 1) := hpt.off0 (by omega)
  have hgY : w.heap.size + 4 ≤ w3.heap.size + 1 := by omega
  have hxE := ((HX8.out.mono hb810).setCell (g := w3.heap.size + 1) (i := 0) hgY (.bool (sg false tn))).setCell (g := w3.heap.size + 1) (i := 1) hgY (.slice ta tn tc)
  have xX := ((X8.out.mono hb810).other 0 nXY (.bool (sg false tn))).other 1 nXY (.slice ta tn tc)
  have xY := y10.put2 (.bool (sg false tn)) (.slice ta tn tc)
  have sX := ((SV8.out.mono hb810).setCell ovY (i := 0) (.bool (sg false tn))).setCell ovY (i := 1) (.slice ta tn tc)
  have sY := (hst.setCell otY (i := 0) (.bool (sg false tn))).setCell otY (i := 1) (.slice ta tn tc)
  obtain ⟨WE, hWE⟩ : ∃ WE, WE = ((w10.setCell ⟨w3.heap.size + 1, 0, none⟩ (.bool (sg false tn))).setCell ⟨w3.heap.size + 1, 1, none⟩ (.slice ta tn tc)) := ⟨_, rfl⟩
  rw [← hWE] at hxE xX xY sX sY
  have b0 : WE.cell? ⟨w.heap.size + 1, 0, none⟩ = some (.bool false) := hxE.cell' 1 0 _ _ rfl rfl
  rw [hWE] at b0
  have oX2 : Off va vn (w.heap.size + 1 + 1) := hpv.off0 (by omega)
  have oX3 : Off va vn (w.heap.size + 1 + 1 + 1) := hpv.off0 (by omega)
  have oY2 : Off ta tn (w.heap.size + 1 + 1) := hpt.off0 (by omega)
  have oY3 : Off ta tn (w.heap.size + 1 + 1 + 1) := hpt.off0 (by omega)
  have pX : Prov w [] va vn := hpv.mono (by omega)
  have pY : Prov w [] ta tn := hpt.mono (by omega)
  clear KC sbd syd hst r10 hb10 y10 g0 g1 hb810 HX8 X8 Y8 SV8 SY8 hR1
  go_wp2
  rw [← hWE]
  clear b0 hWE
  have KD : Hid (∀ W, (Box W w3.heap.size #[.bool (sg true vn), .slice va vn vc] ∧ Box W (w3.heap.size + 1) #[.bool (sg false tn), .slice ta tn tc]) → W.cell? ⟨w3.heap.size, 0, none⟩ = some (.bool (sg true vn)) ∧ W.cell? ⟨w3.heap.size, 1, none⟩ = some (.slice va vn vc) ∧ W.cell? ⟨w3.heap.size + 1, 0, none⟩ = some (.bool (sg false tn)) ∧ W.cell? ⟨w3.heap.size + 1, 1, none⟩ = some (.slice ta tn tc) ∧ (Box W w3.heap.size #[.bool (sg true vn), .slice va vn vc] ∧ Box W (w3.heap.size + 1) #[.bool (sg false tn), .slice ta tn tc])) := fun W h => ⟨h.1.cell 0 _ rfl, h.1.cell 1 _ rfl, h.2.cell 0 _ rfl, h.2.cell 1 _ rfl, h⟩
  have nX2 : w3.heap.size ≠ w.heap.size + 1 + 1 := by omega
  have nX3 : w3.heap.size ≠ w.heap.size + 1 + 1 + 1 := by omega
  have nY2 : w3.heap.size + 1 ≠ w.heap.size + 1 + 1 := by omega
  have nY3 : w3.heap.size + 1 ≠ w.heap.size + 1 + 1 + 1 := by omega
  have HX0 : Hid (Box WE.drew w3.heap.size #[.bool (sg true vn), .slice va vn vc]) := xX.drew
  have HY0 : Hid (Box WE.drew (w3.heap.size + 1) #[.bool (sg false tn), .slice ta tn tc]) := xY.drew
  have hxz := hxE
  have e20 : WE.cell? ⟨w.heap.size + 1 + 1, 0, none⟩ = some (.bool false) := hxz.cell' 2 0 _ _ rfl rfl
  have e21 : WE.cell? ⟨w.heap.size + 1 + 1, 1, none⟩ = some (.slice none 0 0) := hxz.cell' 2 1 _ _ rfl rfl
  have e30 : WE.cell? ⟨w.heap.size + 1 + 1 + 1, 0, none⟩ = some (.bool false) := hxz.cell' 3 0 _ _ rfl rfl
  have e31 : WE.cell? ⟨w.heap.size + 1 + 1 + 1, 1, none⟩ = some (.slice none 0 0) := hxz.cell' 3 1 _ _ rfl rfl
  have f20 : WE.frozen? ⟨w.heap.size + 1 + 1, 0, none⟩ = false := hxz.frozen' 2 0 (by simp)
  have f21 : WE.frozen? ⟨w.heap.size + 1 + 1, 1, none⟩ = false := hxz.frozen' 2 1 (by simp)
  have f30 : WE.frozen? ⟨w.heap.size + 1 + 1 + 1, 0, none⟩ = false := hxz.frozen' 3 0 (by simp)
  have f31 : WE.frozen? ⟨w.heap.size + 1 + 1 + 1, 1, none⟩ = false := hxz.frozen' 3 1 (by simp)
  have sXz := sX.drew
  have sYz := sY.drew
  clear xX xY hxE hx5 hx3 c00 c10 c003 c103 sX sY
  go_region_held3 (fun W => W.cell? ⟨w3.heap.size, 0, none⟩ = some (.bool (sg true vn)) ∧ W.cell? ⟨w3.heap.size, 1, none⟩ = some (.slice va vn vc) ∧ W.cell? ⟨w3.heap.size + 1, 0, none⟩ = some (.bool (sg false tn)) ∧ W.cell? ⟨w3.heap.size + 1, 1, none⟩ = some (.slice ta tn tc) ∧ (Box W w3.heap.size #[.bool (sg true vn), .slice va vn vc] ∧ Box W (w3.heap.size + 1) #[.bool (sg false tn), .slice ta tn tc]))
    (first
      | (exact KD.out _ ⟨HX0.out, HY0.out⟩)
      | (exact KD.out _ ⟨(HX0.out.other 0 nX2 _).other 1 nX2 _, (HY0.out.other 0 nY2 _).other 1 nY2 _⟩)
      | (exact KD.out _ ⟨(((HX0.out.other 0 nX2 _).other 1 nX2 _).other 0 nX3 _).other 1 nX3 _, (((HY0.out.other 0 nY2 _).other 1 nY2 _).other 0 nY3 _).other 1 nY3 _⟩))
    (fail)
  go_wp2
  (try simp only [Exit.inBlock, Exit.then])
  refine bodyPost_ret (v := .tuple #[.agg #[.bool (sg true vn), .slice va vn vc], .agg #[.bool (sg false tn), .slice ta tn tc]]) (by simp [results, Tryd.results114, go_sem, e20, e21, e30, e31]) rfl ?_
  exact ⟨_, _, _, _, _, _, rfl, (((sXz.setCell oX2 _).setCell oX2 _).setCell oX3 _).setCell oX3 _, (((sYz.setCell oY2 _).setCell oY2 _).setCell oY3 _).setCell oY3 _,
    ((((hxz.below.setCell (p := ⟨w.heap.size + 1 + 1, 0, none⟩) (by simp; omega) (.bool (sg true vn))).setCell (p := ⟨w.heap.size + 1 + 1, 1, none⟩) (by simp; omega) (.slice va vn vc)).setCell (p := ⟨w.heap.size + 1 + 1 + 1, 0, none⟩) (by simp; omega) (.bool (sg false tn))).setCell (p := ⟨w.heap.size + 1 + 1 + 1, 1, none⟩) (by simp; omega) (.slice ta tn tc)).trans ⟨rfl, rfl, rfl, Nat.le_refl _, fun _ _ => rfl⟩,
    pX, pY⟩
end Go.Proofs.YtbnjmeeaaieicaaDoor
