/- Contracts of the reference's Quo of whole numbers. -/
import Derived.Test.YtbnjmeeaaieicaaDoorW87
import Derived.Test.YtbnjmeeaaieicaaDoorW83
import Derived.Deep.RegionHeld3
open Alg Go Go.RowKit
namespace Alg
/-- a quotient, and what is left -/
def RetQ2 (qs : Bool) (Q R : Nat) (w : World) (e : Ending) (w' : World) : Prop :=
  ∃ a n cap b m cap', e = .returned (.tuple #[.agg #[.bool (sg qs n), .slice a n cap], .agg #[.bool (sg false m), .slice b m cap']]) ∧ Sl w' a n cap (lim Q) ∧ Sl w' b m cap' (lim R) ∧ Below w.heap.size w w' ∧ Prov w [] a n ∧ Prov w [] b m
theorem sl_alloc {w : World} {a : Option Addr} {n cap : Nat} {l : List Nat} (h : Sl w a n cap l) (o : Obj) : Sl (w.alloc o) a n cap l := h.mono ((Below.refl _ w).alloc (Nat.le_refl _) o)
end Alg
namespace Go.Proofs.YtbnjmeeaaieicaaDoor
open Go.RowKit
set_option maxRecDepth 100000 in
set_option maxHeartbeats 4000000 in
theorem ref02_Quo_p (a : Option Addr) (n cap : Nat) (la : List Nat) (b : Option Addr) (m cap' : Nat) (lb : List Nat) (w : World) (ha : Sl w a n cap la) (hb : Sl w b m cap' lb)
    (cb : Canon 4294967296 lb) (hn : n ≤ 100000) (hm : m ≤ 100000) (hp : 0 < valN lb) :
    Calls Tryd.prog 114 #[.agg #[.bool false, .slice a n cap], .agg #[.bool false, .slice b m cap']] w (RetQ2 false (valN la / valN lb) (valN la % valN lb) w) := by
  have hbx := boxes4 w #[.bool false, .slice a n cap] #[.bool false, .slice b m cap'] #[.bool false, .slice none 0 0] #[.bool false, .slice none 0 0] 25 25 25 25
  have d01 := hbx.cell' 0 1 _ _ rfl rfl
  have d11 := hbx.cell' 1 1 _ _ rfl rfl
  obtain ⟨Q, hQ⟩ : ∃ Q, Q = valN la / valN lb := ⟨_, rfl⟩
  obtain ⟨R, hR⟩ : ∃ R, R = valN la % valN lb := ⟨_, rfl⟩
  have hlQ : (lim Q).length ≤ n := by rw [← ha.len]; exact lim_len_le ha.lt (by rw [hQ]; exact Nat.div_le_self _ _)
  have hlR : (lim R).length ≤ n := by rw [← ha.len]; exact lim_len_le ha.lt (by rw [hR]; exact Nat.mod_le _ _)
  have HQ := Alg.hid hQ
  have HR := Alg.hid hR
  have HLQ := Alg.hid hlQ
  have HLR := Alg.hid hlR
  rw [← hQ, ← hR]
  clear hQ hR hlQ hlR
  go_enter Tryd.func114, Tryd.ntmps114
  go_wp2_with fail
  generalize hW0 : ((((w.alloc (.cells #[.bool false, .slice a n cap] 25)).alloc (.cells #[.bool false, .slice b m cap'] 25)).alloc (.cells #[.bool false, .slice none 0 0] 25)).alloc (.cells #[.bool false, .slice none 0 0] 25)) = W0 at hbx d01 d11 ⊢
  clear hW0
  refine (ref01_DivMod a n cap la b m cap' lb _ (ha.mono hbx.below) (hb.mono hbx.below) cb hn hm hp).mono ?_
  rw [← HQ.out, ← HR.out]
  rintro e w1 ⟨qa, qn, qc, ra, rn, rc, rfl, hsq, hsr, hb1, hpq, hpr, _, _⟩
  have hqn : qn ≤ n := by rw [← hsq.len]; exact HLQ.out
  have hrn : rn ≤ n := by rw [← hsr.len]; exact HLR.out
  go_wp2_with fail
  refine (ref02_trim false qa qn qc (lim Q) _ hsq (by omega)).mono ?_
  rw [valN_lim]
  rintro e w2 ⟨xa, xn, xc, rfl, hsx, hb2, hpx⟩
  go_wp2_with fail
  refine (ref02_trim false ra rn rc (lim R) _ (hsr.mono hb2) (by omega)).mono ?_
  rw [valN_lim]
  rintro e w3 ⟨ya, yn, yc, rfl, hsy, hb3, hpy⟩
  have hx3 : Boxes w w3 [#[.bool false, .slice a n cap], #[.bool false, .slice b m cap'], #[.bool false, .slice none 0 0], #[.bool false, .slice none 0 0]] := ((hbx.mono hb1).mono hb2).mono hb3
  have hs30 := hx3.size
  simp only [List.length_cons, List.length_nil] at hs30
  have hs31 : w1.heap.size ≤ w2.heap.size := hb2.size
  have hs32 : w2.heap.size ≤ w3.heap.size := hb3.size
  have hs33 := ((hbx.mono hb1)).size
  simp only [List.length_cons, List.length_nil] at hs33
  have hx5 : Boxes w ((w3.alloc (.cells #[.bool (sg false xn), .slice xa xn xc] 25)).alloc (.cells #[.bool (sg false yn), .slice ya yn yc] 25)) [#[.bool false, .slice a n cap], #[.bool false, .slice b m cap'], #[.bool false, .slice none 0 0], #[.bool false, .slice none 0 0]] := (hx3.alloc_any _).alloc_any _
  have c00 : ((w3.alloc (.cells #[.bool (sg false xn), .slice xa xn xc] 25)).alloc (.cells #[.bool (sg false yn), .slice ya yn yc] 25)).cell? ⟨w.heap.size, 0, none⟩ = some (.bool false) := hx5.cell' 0 0 _ _ rfl rfl
  have c10 : ((w3.alloc (.cells #[.bool (sg false xn), .slice xa xn xc] 25)).alloc (.cells #[.bool (sg false yn), .slice ya yn yc] 25)).cell? ⟨w.heap.size + 1, 0, none⟩ = some (.bool false) := hx5.cell' 1 0 _ _ rfl rfl
  have c003 : w3.cell? ⟨w.heap.size, 0, none⟩ = some (.bool false) := hx3.cell' 0 0 _ _ rfl rfl
  have c103 : w3.cell? ⟨w.heap.size + 1, 0, none⟩ = some (.bool false) := hx3.cell' 1 0 _ _ rfl rfl
  have hne1 : ¬ w.heap.size = w3.heap.size := by omega
  have hne2 : ¬ w.heap.size = w3.heap.size + 1 := by omega
  have hne3 : ¬ w.heap.size + 1 = w3.heap.size := by omega
  clear d01 d11
  go_wp2
  obtain ⟨WE, hWE⟩ : ∃ WE, WE = ((w3.alloc (.cells #[.bool (sg false xn), .slice xa xn xc] 25)).alloc (.cells #[.bool (sg false yn), .slice ya yn yc] 25)) := ⟨_, rfl⟩
  have hxE : Boxes w WE [#[.bool false, .slice a n cap], #[.bool false, .slice b m cap'], #[.bool false, .slice none 0 0], #[.bool false, .slice none 0 0]] := by rw [hWE]; exact hx5
  have xX : Box WE w3.heap.size #[.bool (sg false xn), .slice xa xn xc] := by
    rw [hWE]; exact (Box.new w3 _ _).alloc _
  have xY : Box WE (w3.heap.size + 1) #[.bool (sg false yn), .slice ya yn yc] := by
    rw [hWE]; exact Box.new' (w3.alloc _) _ _ (World.size_alloc _ _).symm
  have sX : Sl WE xa xn xc (lim Q) := by rw [hWE]; exact sl_alloc (sl_alloc (hsx.mono hb3) _) _
  have sY : Sl WE ya yn yc (lim R) := by rw [hWE]; exact sl_alloc (sl_alloc hsy _) _
  have oX2 : Off xa xn (w.heap.size + 1 + 1) := hpx.off0 (by omega)
  have oX3 : Off xa xn (w.heap.size + 1 + 1 + 1) := hpx.off0 (by omega)
  have oY2 : Off ya yn (w.heap.size + 1 + 1) := hpy.off0 (by omega)
  have oY3 : Off ya yn (w.heap.size + 1 + 1 + 1) := hpy.off0 (by omega)
  have pX : Prov w [] xa xn := hpx.mono (by omega)
  have pY : Prov w [] ya yn := hpy.mono (by omega)
  rw [← hWE]
  clear hWE
  have KD : Hid (∀ W, (Box W w3.heap.size #[.bool (sg false xn), .slice xa xn xc] ∧ Box W (w3.heap.size + 1) #[.bool (sg false yn), .slice ya yn yc]) → W.cell? ⟨w3.heap.size, 0, none⟩ = some (.bool (sg false xn)) ∧ W.cell? ⟨w3.heap.size, 1, none⟩ = some (.slice xa xn xc) ∧ W.cell? ⟨w3.heap.size + 1, 0, none⟩ = some (.bool (sg false yn)) ∧ W.cell? ⟨w3.heap.size + 1, 1, none⟩ = some (.slice ya yn yc) ∧ (Box W w3.heap.size #[.bool (sg false xn), .slice xa xn xc] ∧ Box W (w3.heap.size + 1) #[.bool (sg false yn), .slice ya yn yc])) := fun W h => ⟨h.1.cell 0 _ rfl, h.1.cell 1 _ rfl, h.2.cell 0 _ rfl, h.2.cell 1 _ rfl, h⟩
  have nX2 : w3.heap.size ≠ w.heap.size + 1 + 1 := by omega
  have nX3 : w3.heap.size ≠ w.heap.size + 1 + 1 + 1 := by omega
  have nY2 : w3.heap.size + 1 ≠ w.heap.size + 1 + 1 := by omega
  have nY3 : w3.heap.size + 1 ≠ w.heap.size + 1 + 1 + 1 := by omega
  have HX0 : Hid (Box WE.drew w3.heap.size #[.bool (sg false xn), .slice xa xn xc]) := xX.drew
  have HY0 : Hid (Box WE.drew (w3.heap.size + 1) #[.bool (sg false yn), .slice ya yn yc]) := xY.drew
  have hxz := hxE
  have e20 : WE.cell? ⟨w.heap.size + 1 + 1, 0, none⟩ = some (.bool false) := hxz.cell' 2 0 _ _ rfl rfl
  have e21 : WE.cell? ⟨w.heap.size + 1 + 1, 1, none⟩ = some (.slice none 0 0) := hxz.cell' 2 1 _ _ rfl rfl
  have e30 : WE.cell? ⟨w.heap.size + 1 + 1 + 1, 0, none⟩ = some (.bool false) := hxz.cell' 3 0 _ _ rfl rfl
  have e31 : WE.cell? ⟨w.heap.size + 1 + 1 + 1, 1, none⟩ = some (.slice none 0 0) := hxz.cell' 3 1 _ _ rfl rfl
  have f20 : WE.frozen? ⟨w.heap.size + 1 + 1, 0, none⟩ = false := hxz.frozen' 2 0 (by simp)
  have f21 : WE.frozen? ⟨w.heap.size + 1 + 1, 1, none⟩ = false := hxz.frozen' 2 1 (by simp)
  have f30 : WE.frozen? ⟨w.heap.size + 1 + 1 + 1, 0, none⟩ = false := hxz.frozen' 3 0 (by simp)
  have f31 : WE.frozen? ⟨w.heap.size + 1 + 1 + 1, 1, none⟩ = false := hxz.frozen' 3 1 (by simp)
  have sXz := sX.drew
  have sYz := sY.drew
  clear xX xY hxE hx5 hx3 c00 c10 c003 c103 sX sY
  go_region_held3 (fun W => W.cell? ⟨w3.heap.size, 0, none⟩ = some (.bool (sg false xn)) ∧ W.cell? ⟨w3.heap.size, 1, none⟩ = some (.slice xa xn xc) ∧ W.cell? ⟨w3.heap.size + 1, 0, none⟩ = some (.bool (sg false yn)) ∧ W.cell? ⟨w3.heap.size + 1, 1, none⟩ = some (.slice ya yn yc) ∧ (Box W w3.heap.size #[.bool (sg false xn), .slice xa xn xc] ∧ Box W (w3.heap.size + 1) #[.bool (sg false yn), .slice ya yn yc]))
    (first
      | (exact KD.out _ ⟨HX0.out, HY0.out⟩)
      | (exact KD.out _ ⟨(HX0.out.other 0 nX2 _).other 1 nX2 _, (HY0.out.other 0 nY2 _).other 1 nY2 _⟩)
      | (exact KD.out _ ⟨(((HX0.out.other 0 nX2 _).other 1 nX2 _).other 0 nX3 _).other 1 nX3 _, (((HY0.out.other 0 nY2 _).other 1 nY2 _).other 0 nY3 _).other 1 nY3 _⟩))
    (fail)
  go_wp2
  (try simp only [Exit.inBlock, Exit.then])
  refine bodyPost_ret (v := .tuple #[.agg #[.bool (sg false xn), .slice xa xn xc], .agg #[.bool (sg false yn), .slice ya yn yc]]) (by simp [results, Tryd.results114, go_sem, e20, e21, e30, e31]) rfl ?_
  exact ⟨_, _, _, _, _, _, rfl, (((sXz.setCell oX2 _).setCell oX2 _).setCell oX3 _).setCell oX3 _, (((sYz.setCell oY2 _).setCell oY2 _).setCell oY3 _).setCell oY3 _,
    ((((hxz.below.setCell (p := ⟨w.heap.size + 1 + 1, 0, none⟩) (by simp; omega) (.bool (sg false xn))).setCell (p := ⟨w.heap.size + 1 + 1, 1, none⟩) (by simp; omega) (.slice xa xn xc)).setCell (p := ⟨w.heap.size + 1 + 1 + 1, 0, none⟩) (by simp; omega) (.bool (sg false yn))).setCell (p := ⟨w.heap.size + 1 + 1 + 1, 1, none⟩) (by simp; omega) (.slice ya yn yc)).trans ⟨rfl, rfl, rfl, Nat.le_refl _, fun _ _ => rfl⟩,
    pX, pY⟩
end Go.Proofs.YtbnjmeeaaieicaaDoor
