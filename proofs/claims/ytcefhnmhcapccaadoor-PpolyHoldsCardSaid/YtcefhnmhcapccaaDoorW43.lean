/- The walk of PpolyHolds. -/
import Derived.Test.YtcefhnmhcapccaaDoorA15
import Derived.Test.YtcefhnmhcapccaaDoorW31
import Derived.Test.YtcefhnmhcapccaaDoorH4
open Alg Go Go.RowKit
namespace Go.Proofs.YtcefhnmhcapccaaDoor
open Go.RowKit
set_option maxRecDepth 100000 in
set_option maxHeartbeats 1000000 in
theorem holds_walk (hA : Awake) (p : Nat) (fa : Option Addr) (fn fcap : Nat) (fl : List Nat) (q : Nat) (ga : Option Addr) (gn gcap : Nat) (gl : List Nat) (pg : Nat) (a1 : Option Addr) (n1 c1 : Nat) (G : List Nat) (pu : Nat) (a2 : Option Addr) (n2 c2 : Nat) (U : List Nat) (pv : Nat) (a3 : Option Addr) (n3 c3 : Nat) (V : List Nat) (w : World)
    (hf : Sl w fa fn fcap fl) (hg : Sl w ga gn gcap gl) (h1 : Sl w a1 n1 c1 G) (h2 : Sl w a2 n2 c2 U) (h3 : Sl w a3 n3 c3 V)
    (hp : p < 4294967296) (bf : fn ≤ 35184372087808) (bg : gn ≤ 35184372087808) (b1 : n1 ≤ 35184372087808) (b2 : n2 ≤ 35184372087808) (b3 : n3 ≤ 35184372087808) (hFC : ∀ p, p < 4294967296 → FieldC w p) :
    Calls Tryd.prog 5 #[.agg #[.int .u32 (p : Int), .slice fa fn fcap], .agg #[.int .u32 (q : Int), .slice ga gn gcap], .agg #[.int .u32 (pg : Int), .slice a1 n1 c1, .int .u32 (pu : Int), .slice a2 n2 c2, .int .u32 (pv : Int), .slice a3 n3 c3]] w fun e w' => e = .returned (.bool true) ∧ Below w.heap.size w w' := by
  have hB := (boxes2 w #[.int .u32 (p : Int), .slice fa fn fcap] #[.int .u32 (q : Int), .slice ga gn gcap] 25 25).alloc (by simp) #[.int .u32 (pg : Int), .slice a1 n1 c1, .int .u32 (pu : Int), .slice a2 n2 c2, .int .u32 (pv : Int), .slice a3 n3 c3] 35
  have HFC := Alg.hid (hFC p hp)
  clear hFC
  go_enter Tryd.func5, Tryd.ntmps5
  go_wp2_with fail
  refine (hA _).mono ?_
  rintro e w1 ⟨rfl, hb1⟩
  have hB1 := hB.mono hb1
  clear hB
  have K : Hid (∀ W, Boxes w W [#[.int .u32 (p : Int), .slice fa fn fcap], #[.int .u32 (q : Int), .slice ga gn gcap], #[.int .u32 (pg : Int), .slice a1 n1 c1, .int .u32 (pu : Int), .slice a2 n2 c2, .int .u32 (pv : Int), .slice a3 n3 c3]] → W.cell? ⟨w.heap.size, 0, none⟩ = some (.int .u32 (p : Int)) ∧ W.cell? ⟨w.heap.size, 1, none⟩ = some (.slice fa fn fcap) ∧ W.cell? ⟨w.heap.size + 1, 0, none⟩ = some (.int .u32 (q : Int)) ∧ W.cell? ⟨w.heap.size + 1, 1, none⟩ = some (.slice ga gn gcap) ∧ W.cell? ⟨w.heap.size + 1 + 1, 0, none⟩ = some (.int .u32 (pg : Int)) ∧ W.cell? ⟨w.heap.size + 1 + 1, 1, none⟩ = some (.slice a1 n1 c1) ∧ W.cell? ⟨w.heap.size + 1 + 1, 2, none⟩ = some (.int .u32 (pu : Int)) ∧ W.cell? ⟨w.heap.size + 1 + 1, 3, none⟩ = some (.slice a2 n2 c2) ∧ W.cell? ⟨w.heap.size + 1 + 1, 4, none⟩ = some (.int .u32 (pv : Int)) ∧ W.cell? ⟨w.heap.size + 1 + 1, 5, none⟩ = some (.slice a3 n3 c3) ∧ Boxes w W [#[.int .u32 (p : Int), .slice fa fn fcap], #[.int .u32 (q : Int), .slice ga gn gcap], #[.int .u32 (pg : Int), .slice a1 n1 c1, .int .u32 (pu : Int), .slice a2 n2 c2, .int .u32 (pv : Int), .slice a3 n3 c3]]) :=
    fun W h => ⟨h.cell' 0 0 _ _ rfl rfl, h.cell' 0 1 _ _ rfl rfl, h.cell' 1 0 _ _ rfl rfl, h.cell' 1 1 _ _ rfl rfl, h.cell' 2 0 _ _ rfl rfl, h.cell' 2 1 _ _ rfl rfl, h.cell' 2 2 _ _ rfl rfl, h.cell' 2 3 _ _ rfl rfl, h.cell' 2 4 _ _ rfl rfl, h.cell' 2 5 _ _ rfl rfl, h⟩
  obtain ⟨d0, d1, d2, d3, d4, d5, d6, d7, d8, d9, _⟩ := K.out w1 hB1
  by_cases hs : fn + gn + n1 + n2 + n3 ≤ 60
  · have hs' : (fn : Int) + (gn : Int) + (n1 : Int) + (n2 : Int) + (n3 : Int) ≤ 60 := by omega
    have HB := Alg.hid (holdsB_eq p fl q gl pg G pu U pv V)
    have hB1d := hB1.drew
    go_wp2
    refine wp_region_noPanic ?_
    refine wp_region_held2 9 [(1, 0), (1, 1), (1, 2), (1, 4), (1, 5), (1, 6), (0, 3), (0, 7), (1, 8), (3, 9)] (fun W => W.cell? ⟨w.heap.size, 0, none⟩ = some (.int .u32 (p : Int)) ∧ W.cell? ⟨w.heap.size, 1, none⟩ = some (.slice fa fn fcap) ∧ W.cell? ⟨w.heap.size + 1, 0, none⟩ = some (.int .u32 (q : Int)) ∧ W.cell? ⟨w.heap.size + 1, 1, none⟩ = some (.slice ga gn gcap) ∧ W.cell? ⟨w.heap.size + 1 + 1, 0, none⟩ = some (.int .u32 (pg : Int)) ∧ W.cell? ⟨w.heap.size + 1 + 1, 1, none⟩ = some (.slice a1 n1 c1) ∧ W.cell? ⟨w.heap.size + 1 + 1, 2, none⟩ = some (.int .u32 (pu : Int)) ∧ W.cell? ⟨w.heap.size + 1 + 1, 3, none⟩ = some (.slice a2 n2 c2) ∧ W.cell? ⟨w.heap.size + 1 + 1, 4, none⟩ = some (.int .u32 (pv : Int)) ∧ W.cell? ⟨w.heap.size + 1 + 1, 5, none⟩ = some (.slice a3 n3 c3) ∧ Boxes w W [#[.int .u32 (p : Int), .slice fa fn fcap], #[.int .u32 (q : Int), .slice ga gn gcap], #[.int .u32 (pg : Int), .slice a1 n1 c1, .int .u32 (pu : Int), .slice a2 n2 c2, .int .u32 (pv : Int), .slice a3 n3 c3]]) (fun _ => True) (by kernel_rfl) (by kernel_rfl) (fun _ _ _ _ _ h => h) (fun _ _ => trivial) (K.out _ hB1d) (fun _ => ?_)
    simp only [pick2, List.getElem?_cons_succ, List.getElem?_cons_zero]
    iterate 6
      (refine held2_early (v := ?_) (by rfl) ?_ ?_
       rotate_left
       · intro W hSw; (try dsimp only at hSw); go_simp; (try with_reducible rfl)
       try simp only [Act.put, List.setIfInBounds_toArray, List.set_cons_zero, List.set_cons_succ])
    refine held2_loud (fun K' hK => ?_)
    go_simp
    refine (ppoly_HoldsGcd p fa fn fcap fl q ga gn gcap gl pg a1 n1 c1 G pu a2 n2 c2 U pv a3 n3 c3 V w1.drew (HFC.out.mono hB1d.below) (hf.mono hB1d.below) (hg.mono hB1d.below) (h1.mono hB1d.below) (h2.mono hB1d.below) (h3.mono hB1d.below) hp (by omega) (by omega) (by omega) (by omega) (by omega)).mono ?_
    rw [HB.out]
    rintro e w2 ⟨rfl, hb2⟩
    have hB2 := hB1d.mono hb2
    refine hK.out _ _ (K.out _ hB2) (fun _ => ?_)
    clear hK K'
    try simp only [Act.put, List.setIfInBounds_toArray, List.set_cons_zero, List.set_cons_succ]
    refine held2_loud (fun K' hK => ?_)
    go_simp
    refine (ref_HoldsGcd p fa fn fcap fl q ga gn gcap gl pg a1 n1 c1 G pu a2 n2 c2 U pv a3 n3 c3 V w2 (hf.mono hB2.below) (hg.mono hB2.below) (h1.mono hB2.below) (h2.mono hB2.below) (h3.mono hB2.below) hp (by omega) (by omega) (by omega) (by omega) (by omega)).mono ?_
    rintro e w3 ⟨rfl, hb3⟩
    have hB3 := hB2.mono hb3
    generalize holdsR p fl q gl pg G pu U pv V = hv
    have hvv : (hv == hv) = true := beq_self_eq_true hv
    refine hK.out _ _ (K.out _ hB3) (fun _ => ?_)
    clear hK K'
    try simp only [Act.put, List.setIfInBounds_toArray, List.set_cons_zero, List.set_cons_succ]
    iterate 1
      (refine held2_early (v := ?_) (by rfl) ?_ ?_
       rotate_left
       · intro W hSw; (try dsimp only at hSw); go_simp; (try with_reducible rfl)
       try simp only [Act.put, List.setIfInBounds_toArray, List.set_cons_zero, List.set_cons_succ])
    refine held2_store (fun K' hK => ?_)
    go_simp
    refine hK.out _ _ trivial (fun _ => ?_)
    clear hK K'
    try simp only [Act.put, List.setIfInBounds_toArray, List.set_cons_zero, List.set_cons_succ]
    refine held2_nil ?_
    refine NoPanic.normal ?_
    go_wp2
    go_ret
    exact ⟨rfl, hB3.below⟩
  · have hs' : ¬ (fn : Int) + (gn : Int) + (n1 : Int) + (n2 : Int) + (n3 : Int) ≤ 60 := by omega
    go_wp2
    go_ret
    exact ⟨rfl, hB1.below⟩
end Go.Proofs.YtcefhnmhcapccaaDoor
