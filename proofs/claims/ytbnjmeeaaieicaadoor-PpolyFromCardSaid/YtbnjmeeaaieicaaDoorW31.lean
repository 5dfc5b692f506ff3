/- awake answers true. -/
import Derived.Test.YtbnjmeeaaieicaaDoorW29
import Derived.Test.YtbnjmeeaaieicaaDoorW28
import Derived.Test.YtbnjmeeaaieicaaDoorW30
import Derived.Test.YtbnjmeeaaieicaaDoorE2
open Alg Go Go.RowKit
namespace Alg
/-- a slice over a block whose cells are known -/
theorem sl_cells {W : World} {b : Nat} {l : List Nat} (h : ∀ i, i < l.length → W.cell? ⟨b, i, none⟩ = some (.int .u32 (nth l i : Nat))) (hl : ∀ i, nth l i < 4294967296) (hn : l.length ≤ 9223372036854775807) : Sl W (some ⟨b, 0, none⟩) l.length l.length l where
  len := rfl
  le := Nat.le_refl _
  cap := hn
  lt := hl
  rd := Or.inr ⟨b, 0, rfl, fun i hi => by rw [Nat.zero_add]; exact h i hi⟩
end Alg
namespace Go.Proofs.YtbnjmeeaaieicaaDoor
open Go.RowKit
theorem field5 (w0 : World) : FieldC w0 5 := fun w _ => by
  rw [errP_yes pr5 (by omega)]
  exact modp_Field5 w
theorem canon5f : Canon 5 [4, 0, 1] := (canon_iff (n := 3) rfl (by omega)).2 ⟨fun i hi => by match i, hi with | 0, _ => decide | 1, _ => decide | 2, _ => decide, Or.inr (by decide)⟩
theorem canon5g : Canon 5 [1, 1] := (canon_iff (n := 2) rfl (by omega)).2 ⟨fun i hi => by match i, hi with | 0, _ => decide | 1, _ => decide, Or.inr (by decide)⟩
theorem g5 : (gcdL 5 [4, 0, 1] [1, 1]).G = [1, 1] := by kernel_rfl
theorem q5 : (trim (divL 5 [4, 0, 1] [1, 1]).1).length = 2 := by kernel_rfl
theorem r5 : trim (divL 5 [4, 0, 1] [1, 1]).2 = [] := by kernel_rfl
theorem u5 : (gcdL 5 [4, 0, 1] [1, 1]).U.length = 0 := by kernel_rfl
theorem y5 : (gcdL 5 [4, 0, 1] [1, 1]).V.length = 1 := by kernel_rfl
theorem v5 : valL 5 [4, 0, 1] 2 = 3 := by kernel_rfl
set_option maxRecDepth 100000 in
set_option maxHeartbeats 2000000 in
theorem awake_true : Awake := by
  intro w
  have hbx := boxes4 w #[.int .u32 4, .int .u32 0, .int .u32 1] #[.int .u32 5, .slice (some ⟨w.heap.size, 0, none⟩) 3 3] #[.int .u32 1, .int .u32 1] #[.int .u32 5, .slice (some ⟨w.heap.size + 1 + 1, 0, none⟩) 2 2] 22 47 22 47
  go_enter Tryd.func38, Tryd.ntmps38
  go_wp2_with fail
  generalize hW0 : ((((w.alloc (.cells #[.int .u32 4, .int .u32 0, .int .u32 1] 22)).alloc (.cells #[.int .u32 5, .slice (some ⟨w.heap.size, 0, none⟩) 3 3] 47)).alloc (.cells #[.int .u32 1, .int .u32 1] 22)).alloc (.cells #[.int .u32 5, .slice (some ⟨w.heap.size + 1 + 1, 0, none⟩) 2 2] 47)) = W0 at hbx ⊢
  clear hW0
  have hf0 : Sl W0 (some ⟨w.heap.size, 0, none⟩) 3 3 [4, 0, 1] := sl_cells (l := [4, 0, 1]) (fun i hi => by
    match i, hi with
    | 0, _ => exact hbx.cell' 0 0 _ _ rfl rfl
    | 1, _ => exact hbx.cell' 0 1 _ _ rfl rfl
    | 2, _ => exact hbx.cell' 0 2 _ _ rfl rfl) (fun i => Nat.lt_trans (nth_lt canon5f i) (by omega)) (by decide)
  have hg0 : Sl W0 (some ⟨w.heap.size + 1 + 1, 0, none⟩) 2 2 [1, 1] := sl_cells (l := [1, 1]) (fun i hi => by
    match i, hi with
    | 0, _ => exact hbx.cell' 2 0 _ _ rfl rfl
    | 1, _ => exact hbx.cell' 2 1 _ _ rfl rfl) (fun i => Nat.lt_trans (nth_lt canon5g i) (by omega)) (by decide)
  refine (ppoly_Gcd 5 _ 3 3 [4, 0, 1] _ 2 2 [1, 1] W0 hf0 hg0 pr5 (by omega) (by omega) (by omega) canon5f canon5g).mono ?_
  rintro e w1 ⟨a1, n1, c1, a2, n2, c2, a3, n3, c3, rfl, hs1, hb1⟩
  have K : Hid (∀ W, Boxes w W [#[.int .u32 4, .int .u32 0, .int .u32 1], #[.int .u32 5, .slice (some ⟨w.heap.size, 0, none⟩) 3 3], #[.int .u32 1, .int .u32 1], #[.int .u32 5, .slice (some ⟨w.heap.size + 1 + 1, 0, none⟩) 2 2]] → W.cell? ⟨w.heap.size + 1, 0, none⟩ = some (.int .u32 5) ∧ W.cell? ⟨w.heap.size + 1, 1, none⟩ = some (.slice (some ⟨w.heap.size, 0, none⟩) 3 3) ∧ W.cell? ⟨w.heap.size + 1 + 1 + 1, 0, none⟩ = some (.int .u32 5) ∧ W.cell? ⟨w.heap.size + 1 + 1 + 1, 1, none⟩ = some (.slice (some ⟨w.heap.size + 1 + 1, 0, none⟩) 2 2)) :=
    fun W h => ⟨h.cell' 1 0 _ _ rfl rfl, h.cell' 1 1 _ _ rfl rfl, h.cell' 3 0 _ _ rfl rfl, h.cell' 3 1 _ _ rfl rfl⟩
  have K3 : Hid (∀ W, Boxes w1 W [#[.int .u32 5, .slice a1 n1 c1, .int .u32 5, .slice a2 n2 c2, .int .u32 5, .slice a3 n3 c3]] → W.cell? ⟨w1.heap.size, 0, none⟩ = some (.int .u32 5) ∧ W.cell? ⟨w1.heap.size, 1, none⟩ = some (.slice a1 n1 c1) ∧ W.cell? ⟨w1.heap.size, 2, none⟩ = some (.int .u32 5) ∧ W.cell? ⟨w1.heap.size, 3, none⟩ = some (.slice a2 n2 c2) ∧ W.cell? ⟨w1.heap.size, 4, none⟩ = some (.int .u32 5) ∧ W.cell? ⟨w1.heap.size, 5, none⟩ = some (.slice a3 n3 c3)) :=
    fun W h => ⟨h.cell' 0 0 _ _ rfl rfl, h.cell' 0 1 _ _ rfl rfl, h.cell' 0 2 _ _ rfl rfl, h.cell' 0 3 _ _ rfl rfl, h.cell' 0 4 _ _ rfl rfl, h.cell' 0 5 _ _ rfl rfl⟩
  have hy1 := boxes1 w1 #[.int .u32 5, .slice a1 n1 c1, .int .u32 5, .slice a2 n2 c2, .int .u32 5, .slice a3 n3 c3] 83
  have hx1 := (hbx.mono hb1).mono hy1.below
  have hf1 := (hf0.mono hb1).mono hy1.below
  have hg1 := (hg0.mono hb1).mono hy1.below
  have ht1 := hs1.mono hy1.below
  obtain ⟨d0, d1, d2, d3⟩ := K.out _ hx1
  have lG := hs1.g.len
  have lU := hs1.u.len
  have lV := hs1.v.len
  go_wp2_with fail
  refine (ppoly_DivMod 5 _ 3 3 [4, 0, 1] _ 2 2 [1, 1] 5 _ hf1 hg1 (by omega) (by decide) (by omega) (by omega) (by omega) (by omega)).mono ?_
  rintro e w2 ⟨qa, qn, qc, ra, rn, rc, rfl, hq2, hr2, hb2, _, _⟩
  have hqn : qn = 2 := hq2.len.symm.trans q5
  have hrn : rn = 0 := by have := hr2.len; rw [r5] at this; exact this.symm
  subst hqn
  subst hrn
  have hz2 := boxes2 w2 #[.int .u32 5, .slice qa 2 qc] #[.int .u32 5, .slice ra 0 rc] 47 47
  have hx2 := (hx1.mono hb2).mono hz2.below
  have hy2 := (hy1.mono hb2).mono hz2.below
  have hf2 := (hf1.mono hb2).mono hz2.below
  have hg2 := (hg1.mono hb2).mono hz2.below
  have ht2 := (ht1.mono hb2).mono hz2.below
  clear d0 d1 d2 d3 hx1 hy1 hf1 hg1 ht1 hbx hf0 hg0 hq2 hr2
  go_wp2_with fail
  generalize hW2 : ((w2.alloc (.cells #[.int .u32 5, .slice qa 2 qc] 47)).alloc (.cells #[.int .u32 5, .slice ra 0 rc] 47)) = W2 at hz2 hx2 hy2 hf2 hg2 ht2 ⊢
  have hWs : W2.heap.size = w2.heap.size + 1 + 1 := by rw [← hW2, World.size_alloc, World.size_alloc]
  clear hW2
  have hs3 : Sl (W2.alloc (.cells #[.int .u32 3] 22)) (some ⟨w2.heap.size + 1 + 1, 0, none⟩) 1 1 [3] := by rw [← hWs]; exact sl_one W2 3 (by omega) _
  refine (ppoly_Sym3 _ 1 _ hs3).mono ?_
  rintro e w3 ⟨⟨g, c, rfl, hcg⟩, hb3⟩
  have hB3 := bl0 hb3
  have hx3 := hx2.mono hB3
  have hy3 := hy2.mono hB3
  have hz3 := hz2.mono hB3
  have hf3 := hf2.mono hB3
  have hg3 := hg2.mono hB3
  have ht3 := ht2.mono hB3
  clear hx2 hy2 hz2 hf2 hg2 ht2 hs3
  obtain ⟨d0, d1, d2, d3⟩ := K.out _ hx3
  go_wp2_with fail
  refine (ppoly_Right 5 _ 3 3 [4, 0, 1] _ (field5 _) hf3 (by omega)).mono ?_
  rw [show rightB 5 [4, 0, 1] = true from rightB_true.2 ⟨canon5f, pr5, by omega⟩]
  rintro e w4 ⟨rfl, hb4⟩
  have hx4 := hx3.mono hb4
  have hy4 := hy3.mono hb4
  have hz4 := hz3.mono hb4
  have hf4 := hf3.mono hb4
  have hg4 := hg3.mono hb4
  have ht4 := ht3.mono hb4
  have cg4 := (hb4.cell (p := ⟨g, 0, none⟩) (cell_lt hcg)).trans hcg
  clear hx3 hy3 hz3 hf3 hg3 ht3 hcg d0 d1 d2 d3
  obtain ⟨d0, d1, d2, d3⟩ := K.out _ hx4
  obtain ⟨t0, t1, t2, t3, t4, t5⟩ := K3.out _ hy4
  have hG4 := ht4.g
  rw [g5] at hG4 lG
  have lG' : n1 = 2 := lG.symm
  subst lG'
  clear lG
  go_wp2_with fail
  refine (ref_Same 5 a1 2 c1 [1, 1] 5 _ 2 2 [1, 1] _ hG4 hg4 (by omega)).mono ?_
  rw [sameB_true.2 ⟨rfl, rfl⟩]
  rintro e w5 ⟨rfl, hb5⟩
  have hx5 := hx4.mono hb5
  have hy5 := hy4.mono hb5
  have hz5 := hz4.mono hb5
  have hf5 := hf4.mono hb5
  have hg5 := hg4.mono hb5
  have ht5 := ht4.mono hb5
  have cg5 := (hb5.cell (p := ⟨g, 0, none⟩) (cell_lt cg4)).trans cg4
  clear hx4 hy4 hz4 hf4 hg4 ht4 hG4 cg4 d0 d1 d2 d3 t0 t1 t2 t3 t4 t5
  obtain ⟨d0, d1, d2, d3⟩ := K.out _ hx5
  obtain ⟨t0, t1, t2, t3, t4, t5⟩ := K3.out _ hy5
  go_wp2_with fail
  refine (ppoly_HoldsGcd 5 _ 3 3 [4, 0, 1] 5 _ 2 2 [1, 1] 5 a1 2 c1 _ 5 a2 n2 c2 _ 5 a3 n3 c3 _ w5 (field5 _) hf5 hg5 ht5.g ht5.u ht5.v (by omega) (by omega) (by omega) (by omega) (by rw [← lU, u5]; omega) (by rw [← lV, y5]; omega)).mono ?_
  rw [holdsB_gcd pr5 (by omega) canon5f canon5g]
  rintro e w6 ⟨rfl, hb6⟩
  have hx6 := hx5.mono hb6
  have hz6 := hz5.mono hb6
  have hf6 := hf5.mono hb6
  have cg6 := (hb6.cell (p := ⟨g, 0, none⟩) (cell_lt cg5)).trans cg5
  clear hx5 hy5 hz5 hf5 hg5 ht5 cg5 d0 d1 d2 d3 t0 t1 t2 t3 t4 t5 K3 lU lV hs1
  obtain ⟨d0, d1, d2, d3⟩ := K.out _ hx6
  have s0 : w6.cell? ⟨w2.heap.size, 1, none⟩ = some (.slice qa 2 qc) := hz6.cell' 0 1 _ _ rfl rfl
  have s1 : w6.cell? ⟨w2.heap.size + 1, 1, none⟩ = some (.slice ra 0 rc) := hz6.cell' 1 1 _ _ rfl rfl
  go_wp2_with fail
  refine (ppoly_Value 5 2 _ 3 3 [4, 0, 1] w6 hf6 (by omega) (by omega) (by omega) (by omega)).mono ?_
  rw [v5]
  rintro e w7 ⟨rfl, hb7⟩
  have hx7 := hx6.mono hb7
  clear hx6 hz6 hf6 cg6 d0 d1 d2 d3 s0 s1
  obtain ⟨d0, d1, d2, d3⟩ := K.out _ hx7
  go_wp2_with fail
  refine (ppoly_Deg 5 _ 3 3 w7 (by omega)).mono ?_
  rintro e w8 ⟨rfl, hb8⟩
  have hx8 := hx7.mono hb8
  go_wp2
  go_ret
  exact ⟨rfl, hx8.below⟩
end Go.Proofs.YtbnjmeeaaieicaaDoor
