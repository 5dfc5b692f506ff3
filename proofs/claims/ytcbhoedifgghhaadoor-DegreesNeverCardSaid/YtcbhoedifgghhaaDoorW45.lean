/- The walk of PpolyRight. -/
import Derived.Test.YtcbhoedifgghhaaDoorW44
import Derived.Test.YtcbhoedifgghhaaDoorW31
import Derived.Test.YtcbhoedifgghhaaDoorW15
import Derived.Test.YtcbhoedifgghhaaDoorW42
import Derived.Test.YtcbhoedifgghhaaDoorHH
open Alg Go Go.RowKit
namespace Go.Proofs.YtcbhoedifgghhaaDoor
open Go.RowKit
theorem ref_Deg (p : Int) (a : Option Addr) (n cap : Nat) (w : World) (h : n ≤ 9223372036854775807) :
    Calls Tryd.prog 50 #[.agg #[.int .u32 p, .slice a n cap]] w fun e w' => e = .returned (.int .i64 (n - 1)) ∧ Below w.heap.size w w' := by
  go_enter Tryd.func50, Tryd.ntmps50
  go_wp2
  go_ret
  exact ⟨rfl, (Below.refl _ _).alloc (Nat.le_refl _) _⟩
set_option maxRecDepth 100000 in
set_option maxHeartbeats 1000000 in
theorem right_walk (hA : Awake) (p : Nat) (fa : Option Addr) (fn fcap : Nat) (fl : List Nat) (q : Nat) (ga : Option Addr) (gn gcap : Nat) (gl : List Nat) (w : World)
    (hf : Sl w fa fn fcap fl) (hg : Sl w ga gn gcap gl) (hp : p < 4294967296) (hq : q < 4294967296) (hT : Tab w) :
    Calls Tryd.prog 11 #[.agg #[.int .u32 (p : Int), .slice fa fn fcap], .agg #[.int .u32 (q : Int), .slice ga gn gcap]] w fun e w' => e = .returned (.bool true) ∧ Below w.heap.size w w' := by
  have hB := boxes2 w #[.int .u32 (p : Int), .slice fa fn fcap] #[.int .u32 (q : Int), .slice ga gn gcap] 25 25
  have HFC := Alg.hid (fieldC_of hT p hp)
  clear hT
  have cf := hf.cap
  have cg := hg.cap
  have ef := hf.le
  have eg := hg.le
  go_enter Tryd.func11, Tryd.ntmps11
  go_wp2_with fail
  refine (hA _).mono ?_
  rintro e w1 ⟨rfl, hb1⟩
  have hB1 := hB.mono hb1
  clear hB
  have K : Hid (∀ W, Boxes w W [#[.int .u32 (p : Int), .slice fa fn fcap], #[.int .u32 (q : Int), .slice ga gn gcap]] → W.cell? ⟨w.heap.size, 0, none⟩ = some (.int .u32 (p : Int)) ∧ W.cell? ⟨w.heap.size, 1, none⟩ = some (.slice fa fn fcap) ∧ W.cell? ⟨w.heap.size + 1, 0, none⟩ = some (.int .u32 (q : Int)) ∧ W.cell? ⟨w.heap.size + 1, 1, none⟩ = some (.slice ga gn gcap) ∧ Boxes w W [#[.int .u32 (p : Int), .slice fa fn fcap], #[.int .u32 (q : Int), .slice ga gn gcap]]) :=
    fun W h => ⟨h.cell' 0 0 _ _ rfl rfl, h.cell' 0 1 _ _ rfl rfl, h.cell' 1 0 _ _ rfl rfl, h.cell' 1 1 _ _ rfl rfl, h⟩
  obtain ⟨d0, d1, d2, d3, _⟩ := K.out w1 hB1
  by_cases hs : 100 < fn
  · have hs' : (100 : Int) < (fn : Int) := by omega
    go_wp2
    go_ret
    exact ⟨rfl, hB1.below⟩
  have hs' : ¬ (100 : Int) < (fn : Int) := by omega
  by_cases ht : 100 < gn
  · have ht' : (100 : Int) < (gn : Int) := by omega
    go_wp2
    go_ret
    exact ⟨rfl, hB1.below⟩
  have ht' : ¬ (100 : Int) < (gn : Int) := by omega
  clear hs ht
  have hB1d := hB1.drew
  go_wp2
  refine wp_region_noPanic ?_
  refine wp_region_held2 13 [(1, 0), (1, 2), (0, 1), (0, 3), (1, 4), (1, 5), (1, 6), (1, 7), (1, 9), (1, 10), (0, 8), (0, 11), (1, 12), (3, 13)] (fun W => W.cell? ⟨w.heap.size, 0, none⟩ = some (.int .u32 (p : Int)) ∧ W.cell? ⟨w.heap.size, 1, none⟩ = some (.slice fa fn fcap) ∧ W.cell? ⟨w.heap.size + 1, 0, none⟩ = some (.int .u32 (q : Int)) ∧ W.cell? ⟨w.heap.size + 1, 1, none⟩ = some (.slice ga gn gcap) ∧ Boxes w W [#[.int .u32 (p : Int), .slice fa fn fcap], #[.int .u32 (q : Int), .slice ga gn gcap]]) (fun _ => True) (by kernel_rfl) (by kernel_rfl) (fun _ _ _ _ _ h => h) (fun _ _ => trivial) (K.out _ hB1d) (fun _ => ?_)
  simp only [pick2, List.getElem?_cons_succ, List.getElem?_cons_zero]
  iterate 2
    (refine held2_early (v := ?_) (by rfl) ?_ ?_
     rotate_left
     · intro W hSw; (try dsimp only at hSw); go_simp; (try with_reducible rfl)
     try simp only [Act.put, List.setIfInBounds_toArray, List.set_cons_zero, List.set_cons_succ])
  refine held2_loud (fun K' hK => ?_)
  go_simp
  refine (ppoly_Right p fa fn fcap fl w1.drew (HFC.out.mono hB1d.below) (hf.mono hB1d.below) (by omega)).mono ?_
  rintro e w2 ⟨rfl, hb2⟩
  have hB2 := hB1d.mono hb2
  refine hK.out _ _ (K.out _ hB2) (fun _ => ?_)
  clear hK K'
  try simp only [Act.put, List.setIfInBounds_toArray, List.set_cons_zero, List.set_cons_succ]
  refine held2_loud (fun K' hK => ?_)
  go_simp
  refine (ref_Right p fa fn fcap fl w2 (hf.mono hB2.below) hp (by omega)).mono ?_
  rintro e w3 ⟨rfl, hb3⟩
  have hB3 := hB2.mono hb3
  generalize rightB p fl = rb
  have hrb : (rb != rb) = false := by cases rb <;> rfl
  refine hK.out _ _ (K.out _ hB3) (fun _ => ?_)
  clear hK K'
  try simp only [Act.put, List.setIfInBounds_toArray, List.set_cons_zero, List.set_cons_succ]
  iterate 6
    (refine held2_early (v := ?_) (by rfl) ?_ ?_
     rotate_left
     · intro W hSw; (try dsimp only at hSw); go_simp; (try with_reducible rfl)
     try simp only [Act.put, List.setIfInBounds_toArray, List.set_cons_zero, List.set_cons_succ])
  refine held2_loud (fun K' hK => ?_)
  go_simp
  refine (ppoly_Same p fa fn fcap fl q ga gn gcap gl w3 (hf.mono hB3.below) (hg.mono hB3.below) (by omega)).mono ?_
  rintro e w4 ⟨rfl, hb4⟩
  have hB4 := hB3.mono hb4
  refine hK.out _ _ (K.out _ hB4) (fun _ => ?_)
  clear hK K'
  try simp only [Act.put, List.setIfInBounds_toArray, List.set_cons_zero, List.set_cons_succ]
  refine held2_loud (fun K' hK => ?_)
  go_simp
  refine (ref_Same p fa fn fcap fl q ga gn gcap gl w4 (hf.mono hB4.below) (hg.mono hB4.below) (by omega)).mono ?_
  rintro e w5 ⟨rfl, hb5⟩
  have hB5 := hB4.mono hb5
  generalize sameB p fl q gl = sb
  have hsb : (sb != sb) = false := by cases sb <;> rfl
  refine hK.out _ _ (K.out _ hB5) (fun _ => ?_)
  clear hK K'
  try simp only [Act.put, List.setIfInBounds_toArray, List.set_cons_zero, List.set_cons_succ]
  iterate 1
    (refine held2_early (v := ?_) (by rfl) ?_ ?_
     rotate_left
     · intro W hSw; (try dsimp only at hSw); go_simp; (try with_reducible rfl)
     try simp only [Act.put, List.setIfInBounds_toArray, List.set_cons_zero, List.set_cons_succ])
  refine held2_store (fun K' hK => ?_)
  go_simp
  refine hK.out _ _ trivial (fun _ => ?_)
  clear hK K'
  try simp only [Act.put, List.setIfInBounds_toArray, List.set_cons_zero, List.set_cons_succ]
  refine held2_nil ?_
  refine NoPanic.normal ?_
  clear hB1 hB1d hB2 hB3 hB4 d0 d1 d2 d3
  have hB5d := hB5.drew
  have HP : Hid (∃ pb, pb = pairB p fl q gl 99) := ⟨_, rfl⟩
  obtain ⟨pb, hpb⟩ := HP.out
  clear HP
  have HPB := Alg.hid hpb
  clear hpb
  cases pb with
  | false =>
    obtain ⟨d0, d1, d2, d3, _⟩ := K.out w5 hB5
    go_wp2
    refine wp_region_noPanic ?_
    refine wp_region_held2 20 [(1, 0), (1, 1), (0, 2), (1, 3), (1, 4), (1, 5), (1, 7), (0, 6), (0, 8), (1, 9), (1, 10), (1, 11), (1, 12), (1, 14), (1, 15), (0, 13), (0, 16), (1, 17), (1, 18), (1, 19), (3, 20)] (fun W => W.cell? ⟨w.heap.size, 0, none⟩ = some (.int .u32 (p : Int)) ∧ W.cell? ⟨w.heap.size, 1, none⟩ = some (.slice fa fn fcap) ∧ W.cell? ⟨w.heap.size + 1, 0, none⟩ = some (.int .u32 (q : Int)) ∧ W.cell? ⟨w.heap.size + 1, 1, none⟩ = some (.slice ga gn gcap) ∧ Boxes w W [#[.int .u32 (p : Int), .slice fa fn fcap], #[.int .u32 (q : Int), .slice ga gn gcap]]) (fun _ => True) (by kernel_rfl) (by kernel_rfl) (fun _ _ _ _ _ h => h) (fun _ _ => trivial) (K.out _ hB5d) (fun _ => ?_)
    simp only [pick2, List.getElem?_cons_succ, List.getElem?_cons_zero]
    iterate 2
      (refine held2_early (v := ?_) (by rfl) ?_ ?_
       rotate_left
       · intro W hSw; (try dsimp only at hSw); go_simp; (try with_reducible rfl)
       try simp only [Act.put, List.setIfInBounds_toArray, List.set_cons_zero, List.set_cons_succ])
    refine held2_loud (fun K' hK => ?_)
    go_simp
    refine (ref_Pair p fa fn fcap fl q ga gn gcap gl 99 w5.drew (hf.mono hB5d.below) (hg.mono hB5d.below) hp hq (by omega)).mono ?_
    rw [← HPB.out]
    rintro e w6 ⟨rfl, hb6⟩
    have hB6 := hB5d.mono hb6
    refine hK.out _ _ (K.out _ hB6) (fun _ => ?_)
    clear hK K'
    try simp only [Act.put, List.setIfInBounds_toArray, List.set_cons_zero, List.set_cons_succ]
    iterate 2
      (refine held2_early (v := ?_) (by rfl) ?_ ?_
       rotate_left
       · intro W hSw; (try dsimp only at hSw); go_simp; (try with_reducible rfl)
       try simp only [Act.put, List.setIfInBounds_toArray, List.set_cons_zero, List.set_cons_succ])
    iterate 2
      (refine held2_skip1 (by rfl) ?_
       try simp only [Act.put, List.setIfInBounds_toArray, List.set_cons_zero, List.set_cons_succ])
    refine held2_loud (fun K' hK => ?_)
    go_simp
    refine hK.out _ _ (K.out _ hB6) (fun _ => ?_)
    clear hK K'
    try simp only [Act.put, List.setIfInBounds_toArray, List.set_cons_zero, List.set_cons_succ]
    refine held2_loud (fun K' hK => ?_)
    go_simp
    refine hK.out _ _ (K.out _ hB6) (fun _ => ?_)
    clear hK K'
    try simp only [Act.put, List.setIfInBounds_toArray, List.set_cons_zero, List.set_cons_succ]
    iterate 6
      (refine held2_skip1 (by rfl) ?_
       try simp only [Act.put, List.setIfInBounds_toArray, List.set_cons_zero, List.set_cons_succ])
    refine held2_loud (fun K' hK => ?_)
    go_simp
    refine hK.out _ _ (K.out _ hB6) (fun _ => ?_)
    clear hK K'
    try simp only [Act.put, List.setIfInBounds_toArray, List.set_cons_zero, List.set_cons_succ]
    refine held2_loud (fun K' hK => ?_)
    go_simp
    refine hK.out _ _ (K.out _ hB6) (fun _ => ?_)
    clear hK K'
    try simp only [Act.put, List.setIfInBounds_toArray, List.set_cons_zero, List.set_cons_succ]
    iterate 2
      (refine held2_skip1 (by rfl) ?_
       try simp only [Act.put, List.setIfInBounds_toArray, List.set_cons_zero, List.set_cons_succ])
    iterate 1
      (refine held2_early (v := ?_) (by rfl) ?_ ?_
       rotate_left
       · intro W hSw; (try dsimp only at hSw); go_simp; (try with_reducible rfl)
       try simp only [Act.put, List.setIfInBounds_toArray, List.set_cons_zero, List.set_cons_succ])
    refine held2_store (fun K' hK => ?_)
    go_simp
    refine hK.out _ _ trivial (fun _ => ?_)
    clear hK K'
    try simp only [Act.put, List.setIfInBounds_toArray, List.set_cons_zero, List.set_cons_succ]
    refine held2_nil ?_
    refine NoPanic.normal ?_
    go_wp2
    go_ret
    exact ⟨rfl, hB6.below⟩
  | true =>
    obtain ⟨d0, d1, d2, d3, _⟩ := K.out w5 hB5
    have hz1 : (((fn : Int) - 1) == ((fn : Int) - 1)) = true := by simp
    go_wp2
    refine wp_region_noPanic ?_
    refine wp_region_held2 20 [(1, 0), (1, 1), (0, 2), (1, 3), (1, 4), (1, 5), (1, 7), (0, 6), (0, 8), (1, 9), (1, 10), (1, 11), (1, 12), (1, 14), (1, 15), (0, 13), (0, 16), (1, 17), (1, 18), (1, 19), (3, 20)] (fun W => W.cell? ⟨w.heap.size, 0, none⟩ = some (.int .u32 (p : Int)) ∧ W.cell? ⟨w.heap.size, 1, none⟩ = some (.slice fa fn fcap) ∧ W.cell? ⟨w.heap.size + 1, 0, none⟩ = some (.int .u32 (q : Int)) ∧ W.cell? ⟨w.heap.size + 1, 1, none⟩ = some (.slice ga gn gcap) ∧ Boxes w W [#[.int .u32 (p : Int), .slice fa fn fcap], #[.int .u32 (q : Int), .slice ga gn gcap]]) (fun _ => True) (by kernel_rfl) (by kernel_rfl) (fun _ _ _ _ _ h => h) (fun _ _ => trivial) (K.out _ hB5d) (fun _ => ?_)
    simp only [pick2, List.getElem?_cons_succ, List.getElem?_cons_zero]
    iterate 2
      (refine held2_early (v := ?_) (by rfl) ?_ ?_
       rotate_left
       · intro W hSw; (try dsimp only at hSw); go_simp; (try with_reducible rfl)
       try simp only [Act.put, List.setIfInBounds_toArray, List.set_cons_zero, List.set_cons_succ])
    refine held2_loud (fun K' hK => ?_)
    go_simp
    refine (ref_Pair p fa fn fcap fl q ga gn gcap gl 99 w5.drew (hf.mono hB5d.below) (hg.mono hB5d.below) hp hq (by omega)).mono ?_
    rw [← HPB.out]
    rintro e w6 ⟨rfl, hb6⟩
    have hB6 := hB5d.mono hb6
    refine hK.out _ _ (K.out _ hB6) (fun _ => ?_)
    clear hK K'
    try simp only [Act.put, List.setIfInBounds_toArray, List.set_cons_zero, List.set_cons_succ]
    iterate 4
      (refine held2_early (v := ?_) (by rfl) ?_ ?_
       rotate_left
       · intro W hSw; (try dsimp only at hSw); go_simp; (try with_reducible rfl)
       try simp only [Act.put, List.setIfInBounds_toArray, List.set_cons_zero, List.set_cons_succ])
    refine held2_loud (fun K' hK => ?_)
    go_simp
    refine (ppoly_Deg (p : Int) fa fn fcap w6 (by omega)).mono ?_
    rintro e w7 ⟨rfl, hb7⟩
    have hB7 := hB6.mono hb7
    refine hK.out _ _ (K.out _ hB7) (fun _ => ?_)
    clear hK K'
    try simp only [Act.put, List.setIfInBounds_toArray, List.set_cons_zero, List.set_cons_succ]
    refine held2_loud (fun K' hK => ?_)
    go_simp
    refine (ref_Deg (p : Int) fa fn fcap w7 (by omega)).mono ?_
    rintro e w8 ⟨rfl, hb8⟩
    have hB8 := hB7.mono hb8
    refine hK.out _ _ (K.out _ hB8) (fun _ => ?_)
    clear hK K'
    try simp only [Act.put, List.setIfInBounds_toArray, List.set_cons_zero, List.set_cons_succ]
    iterate 6
      (refine held2_early (v := ?_) (by rfl) ?_ ?_
       rotate_left
       · intro W hSw; (try dsimp only at hSw); go_simp; (try with_reducible rfl)
       try simp only [Act.put, List.setIfInBounds_toArray, List.set_cons_zero, List.set_cons_succ])
    refine held2_loud (fun K' hK => ?_)
    go_simp
    refine (ppoly_Cmp p fa fn fcap fl q ga gn gcap gl w8 (hf.mono hB8.below) (hg.mono hB8.below) (by omega)).mono ?_
    rintro e w9 ⟨rfl, hb9⟩
    have hB9 := hB8.mono hb9
    refine hK.out _ _ (K.out _ hB9) (fun _ => ?_)
    clear hK K'
    try simp only [Act.put, List.setIfInBounds_toArray, List.set_cons_zero, List.set_cons_succ]
    refine held2_loud (fun K' hK => ?_)
    go_simp
    refine (ref_Cmp p fa fn fcap fl q ga gn gcap gl w9 (hf.mono hB9.below) (hg.mono hB9.below) (by omega) (by omega)).mono ?_
    rintro e w10 ⟨rfl, hb10⟩
    have hB10 := hB9.mono hb10
    generalize cmpL fl gl = cb
    have hcb : (cb == cb) = true := by simp
    refine hK.out _ _ (K.out _ hB10) (fun _ => ?_)
    clear hK K'
    try simp only [Act.put, List.setIfInBounds_toArray, List.set_cons_zero, List.set_cons_succ]
    iterate 3
      (refine held2_early (v := ?_) (by rfl) ?_ ?_
       rotate_left
       · intro W hSw; (try dsimp only at hSw); go_simp; (try with_reducible rfl)
       try simp only [Act.put, List.setIfInBounds_toArray, List.set_cons_zero, List.set_cons_succ])
    refine held2_store (fun K' hK => ?_)
    go_simp
    refine hK.out _ _ trivial (fun _ => ?_)
    clear hK K'
    try simp only [Act.put, List.setIfInBounds_toArray, List.set_cons_zero, List.set_cons_succ]
    refine held2_nil ?_
    refine NoPanic.normal ?_
    go_wp2
    go_ret
    exact ⟨rfl, hB10.below⟩
end Go.Proofs.YtcbhoedifgghhaaDoor
