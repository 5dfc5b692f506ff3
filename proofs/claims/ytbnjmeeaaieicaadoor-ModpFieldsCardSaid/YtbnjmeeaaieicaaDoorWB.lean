/- The walk of ModpFields. -/
import Derived.Test.YtbnjmeeaaieicaaDoorWA
open Alg Go Go.RowKit
namespace Go.Proofs.YtbnjmeeaaieicaaDoor
open Go.RowKit
set_option maxRecDepth 100000 in
set_option maxHeartbeats 1000000 in
theorem fields07_walk (p : Nat) (neg : Bool) (a : Option Addr) (n cap : Nat) (la : List Nat) (hp : p < 4294967296) (w : World) (ha : Sl w a n cap la) (hT : Tab w) (hT3 : Tab32 w) :
    Calls Tryd.prog 3 #[.int .u32 (p : Int), .agg #[.bool neg, .slice a n cap]] w fun e w' => e = .returned (.bool true) ∧ Below w.heap.size w w' := by
  have hbx := boxes1 w #[.bool neg, .slice a n cap] 25
  have lna := ha.len
  have lea := ha.le
  have lca := ha.cap
  have herr : (errP p != errP p) = false := by simp
  go_enter Tryd.func3, Tryd.ntmps3
  go_upto_region 1 with fail
  generalize hW0 : w.alloc (.cells #[.bool neg, .slice a n cap] 25) = W0 at hbx ⊢
  clear hW0
  have K : Hid (∀ W, Boxes w W [#[.bool neg, .slice a n cap]] → W.cell? ⟨w.heap.size, 0, none⟩ = some (.bool neg) ∧ W.cell? ⟨w.heap.size, 1, none⟩ = some (.slice a n cap)) := fun W h => ⟨h.cell' 0 0 _ _ rfl rfl, h.cell' 0 1 _ _ rfl rfl⟩
  go_wp2_with fail
  refine (modp_Field p hp W0 (hT.mono hbx.below)).mono ?_
  rintro e w1 ⟨rfl, hb1⟩
  have hx1 := hbx.mono hb1
  clear hbx hb1
  go_wp2_with fail
  refine (ref_Field p w1 hp).mono ?_
  rintro e w1' ⟨rfl, he⟩
  subst he
  go_wp2_with fail
  refine (ref_Field p _ hp).mono ?_
  rintro e w1' ⟨rfl, he⟩
  subst he
  clear herr
  obtain ⟨d0, d1⟩ := K.out _ hx1
  by_cases hpr : IsPr p ∧ p < 2147483648
  rotate_left
  · rw [errP_no hpr]
    clear d0 d1
    go_wp2_with fail
    refine (awake07 _ (hT.mono hx1.below) (hT3.mono hx1.below)).mono ?_
    rintro e wz ⟨rfl, hbz⟩
    have hxz := hx1.mono hbz
    go_wp2
    go_ret
    exact ⟨rfl, hxz.below⟩
  rw [errP_yes hpr.1 hpr.2]
  by_cases h20 : n > 20
  · have h20' : (n : Int) > 20 := by omega
    go_wp2_with fail
    refine (awake07 _ (hT.mono hx1.below) (hT3.mono hx1.below)).mono ?_
    rintro e wz ⟨rfl, hbz⟩
    have hxz := hx1.mono hbz
    go_wp2
    go_ret
    exact ⟨rfl, hxz.below⟩
  have h20' : ¬ (n : Int) > 20 := by omega
  go_wp2_with fail
  refine (ref02_Right neg a n cap la _ (ha.mono hx1.below) (by omega)).mono ?_
  rintro e w2 ⟨rfl, hb2⟩
  have hx2 := hx1.mono hb2
  clear d0 d1 hb2
  cases hr : rightW neg la with
  | false =>
    go_wp2_with fail
    refine (awake07 w2 (hT.mono hx2.below) (hT3.mono hx2.below)).mono ?_
    rintro e wz ⟨rfl, hbz⟩
    have hxz := hx2.mono hbz
    go_wp2
    go_ret
    exact ⟨rfl, hxz.below⟩
  | true =>
    have hp0 : 0 < p := by have := hpr.1.1; omega
    have HC := Alg.hid (rightW_canon hr ha.lt).1
    have hxd := hx2.drew
    clear hr hpr
    generalize hv : remZ p neg (valN la) = v
    have HV := Alg.hid hv
    clear hv
    have KR : Hid (∀ W, Below w2.drew.heap.size w2.drew W → W.cell? ⟨w.heap.size, 0, none⟩ = some (.bool neg) ∧ W.cell? ⟨w.heap.size, 1, none⟩ = some (.slice a n cap)) := fun W h => K.out W (hxd.mono h)
    have hR0 : Below w2.drew.heap.size w2.drew w2.drew := Below.refl _ _
    go_upto_region 5 with fail
    refine wp_region_noPanic ?_
    refine wp_region_held2 10 [(0, 0), (1, 1), (1, 2), (1, 3), (1, 5), (1, 6), (0, 4), (0, 7), (1, 8), (1, 9), (3, 10)] (fun W => W.cell? ⟨w.heap.size, 0, none⟩ = some (.bool neg) ∧ W.cell? ⟨w.heap.size, 1, none⟩ = some (.slice a n cap)) (fun _ => True) (by kernel_rfl) (by kernel_rfl) (fun _ _ _ _ _ h => h) (fun _ _ => trivial) (KR.out _ hR0) (fun _ => ?_)
    simp only [pick2, List.getElem?_cons_succ, List.getElem?_cons_zero]
    refine held2_loud (fun K' hK => ?_)
    go_simp
    refine (awake07 w2.drew (hT.mono hxd.below) (hT3.mono hxd.below)).mono ?_
    rintro e w3 ⟨rfl, hb3⟩
    have r3 := hb3
    refine hK.out _ _ (KR.out _ r3) (fun _ => ?_)
    clear hK K'
    try simp only [Act.put, List.setIfInBounds_toArray, List.set_cons_zero, List.set_cons_succ]
    iterate 5
      (refine held2_early (v := ?_) (by rfl) ?_ ?_
       rotate_left
       · intro W hSw; (try dsimp only at hSw); go_simp; (try with_reducible rfl)
       try simp only [Act.put, List.setIfInBounds_toArray, List.set_cons_zero, List.set_cons_succ])
    refine held2_loud (fun K' hK => ?_)
    go_simp
    refine (modp_From p neg a n cap la w3 (ha.mono (hxd.mono r3).below) (by omega) HC.out hp0 hp).mono ?_
    rw [HV.out]
    rintro e w4 ⟨rfl, hb4⟩
    have r4 := btrans r3 hb4
    refine hK.out _ _ (KR.out _ r4) (fun _ => ?_)
    clear hK K'
    try simp only [Act.put, List.setIfInBounds_toArray, List.set_cons_zero, List.set_cons_succ]
    refine held2_loud (fun K' hK => ?_)
    go_simp
    refine (ref07_From p neg a n cap la w4 (ha.mono (hxd.mono r4).below) (by omega) hp0 hp).mono ?_
    rw [HV.out]
    rintro e w5 ⟨rfl, hb5⟩
    have r5 := btrans r4 hb5
    refine hK.out _ _ (KR.out _ r5) (fun _ => ?_)
    clear hK K'
    try simp only [Act.put, List.setIfInBounds_toArray, List.set_cons_zero, List.set_cons_succ]
    iterate 2
      (refine held2_early (v := ?_) (by rfl) ?_ ?_
       rotate_left
       · intro W hSw; (try dsimp only at hSw); go_simp; (try with_reducible rfl)
       try simp only [Act.put, List.setIfInBounds_toArray, List.set_cons_zero, List.set_cons_succ])
    refine held2_store (fun K' hK => ?_)
    go_simp
    refine hK.out _ _ trivial (fun _ => ?_)
    clear hK K'
    try simp only [Act.put, List.setIfInBounds_toArray, List.set_cons_zero, List.set_cons_succ]
    refine held2_nil ?_
    refine NoPanic.normal ?_
    have hx5 := hxd.mono r5
    go_wp2
    go_ret
    exact ⟨by first | rfl | simp, hx5.below⟩
end Go.Proofs.YtbnjmeeaaieicaaDoor
