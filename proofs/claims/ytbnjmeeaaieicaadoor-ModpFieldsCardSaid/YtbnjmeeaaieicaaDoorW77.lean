/- Contract of the reference's Of of whole numbers, below 0; algebristlaw07's awake answers true. -/
import Derived.Test.YtbnjmeeaaieicaaDoorV4
import Derived.Test.YtbnjmeeaaieicaaDoorV2b
import Derived.Test.YtbnjmeeaaieicaaDoorV1
open Alg Go Go.RowKit
namespace Alg
theorem sl_two (W : World) (T : TypeId) {x y : Nat} (hx : x < 4294967296) (hy : y < 4294967296) : Sl (W.alloc (.cells #[.int .u32 (x : Int), .int .u32 (y : Int)] T)) (some ⟨W.heap.size, 0, none⟩) 2 2 [x, y] := by
  refine ⟨rfl, Nat.le_refl _, by omega, fun i => ?_, Or.inr ⟨_, _, rfl, fun i hi => ?_⟩⟩
  · match i with
    | 0 => exact hx
    | 1 => exact hy
    | i + 2 => show ([] : List Nat).getD i 0 < _; simp
  · rw [cell_box]
    match i, hi with
    | 0, _ => rfl
    | 1, _ => rfl
end Alg
namespace Go.Proofs.YtbnjmeeaaieicaaDoor
open Go.RowKit
set_option maxRecDepth 100000 in
theorem ref02_Of_neg (m : Nat) (w : World) (h0 : 0 < m) (hm : m < 9223372036854775808) :
    Calls Tryd.prog 70 #[.int .i64 (-(m : Int))] w (RetT2 true (lim m) w) := by
  have hbx := boxes1 w #[.bool false, .slice none 0 0] 25
  obtain ⟨x, hx⟩ : ∃ x, x = m % 4294967296 := ⟨_, rfl⟩
  obtain ⟨y, hy⟩ : ∃ y, y = m / 4294967296 := ⟨_, rfl⟩
  have hi : (-(m : Int)) < 0 := by omega
  have e0 : IntKind.u64.wrap (-(m : Int)) = 18446744073709551616 - (m : Int) := by
    rw [IntKind.wrap_u64]; omega
  have e1 : IntKind.u64.wrap (-(18446744073709551616 - (m : Int))) = (m : Int) := by
    rw [IntKind.wrap_u64]; omega
  have e2 : IntKind.u32.wrap (m : Int) = (x : Int) := by
    simp only [IntKind.wrap, IntKind.signed, IntKind.bits]; simp; omega
  have e3 : (m : Int) / 4294967296 = (y : Int) := by omega
  have hxl : x < 4294967296 := by omega
  have hyl : y < 4294967296 := by omega
  have e4 : IntKind.u32.wrap (y : Int) = (y : Int) := IntWalk.u32_in _ (by omega)
  have HV : Hid (valN [x, y] = m) := by show x + 4294967296 * (y + 4294967296 * 0) = m; omega
  clear hx hy
  go_enter Tryd.func70, Tryd.ntmps70
  go_wp2_with fail
  have hs := sl_two (w.alloc (.cells #[.bool false, .slice none 0 0] 25)) 22 hxl hyl
  rw [World.size_alloc] at hs
  refine (ref02_trim_some true _ 2 2 [x, y] _ hs (by omega)).mono ?_
  rintro e w2 ⟨a, n, cap, rfl, hs2, hb2, hp2⟩
  rw [trim_lim hs.lt, HV.out] at hs2
  have hx2 := (hbx.alloc_any (.cells #[.int .u32 (x : Int), .int .u32 (y : Int)] 22)).mono hb2
  have k0 : w2.cell? ⟨w.heap.size, 0, none⟩ = some (.bool false) := hx2.cell' 0 0 _ _ rfl rfl
  have k1 : w2.cell? ⟨w.heap.size, 1, none⟩ = some (.slice none 0 0) := hx2.cell' 0 1 _ _ rfl rfl
  have f0 : w2.frozen? ⟨w.heap.size, 0, none⟩ = false := hx2.frozen' 0 0 (by simp)
  have f1 : w2.frozen? ⟨w.heap.size, 1, none⟩ = false := hx2.frozen' 0 1 (by simp)
  clear hs
  go_wp2
  (try simp only [Exit.inBlock, Exit.then])
  refine bodyPost_ret (v := .agg #[.bool (sg true n), .slice a n cap]) (by simp [results, Tryd.results70, go_sem, k0, k1]) rfl ?_
  have hof : Off a n w.heap.size := hp2.off0 (by simp [World.size_alloc]; omega)
  exact ⟨_, _, _, rfl, (hs2.setCell hof _).setCell hof _, (hx2.below.setCell (p := ⟨w.heap.size, 0, none⟩) (by simp) _).setCell (p := ⟨w.heap.size, 1, none⟩) (by simp) _, hp2.mono (by simp [World.size_alloc]; omega)⟩
theorem pr7 : IsPr 7 := (isPr_iff 7).2 ⟨by decide, fun d h1 h2 => by
  have : d < 3 := by
    rcases Nat.lt_or_ge d 3 with h | h
    · exact h
    · have := Nat.mul_le_mul h h; omega
  obtain rfl : d = 2 := by omega
  decide⟩
instance : NeZero 7 := ⟨by decide⟩
theorem root72 : rootN 7 2 = 3 := (rootN_eq (p := 7) pr7 (a := 2) (x := 3) (by decide) (by decide) (by decide) (by rw [← Fp.of_mul]; exact Fp.of_eq.2 (by decide))).2.2.symm
theorem ord72 : Ord 7 2 3 := ⟨by decide, by decide, fun m h0 h1 => by
  rcases Nat.lt_or_ge m 3 with h | h
  · have : m = 1 ∨ m = 2 := by omega
    rcases this with rfl | rfl
    · exact absurd h1 (by decide)
    · exact absurd h1 (by decide)
  · exact h⟩
theorem aw_root1 (w : World) (hT : Tab32 w) : Calls Tryd.prog 36 #[.int .u32 7, .int .u32 2] w fun e w' => e = .returned (.tuple #[.int .u32 3, .int .i64 0]) ∧ w' = w := by
  have h := modp_Root 7 2 w pr7 (by decide) (by decide) (by decide) (by decide) (by decide) hT
  rw [root72] at h
  exact h
theorem aw_root2 (w : World) : Calls Tryd.prog 36 #[.int .u32 7, .int .u32 3] w fun e w' => e = .returned (.tuple #[.int .u32 0, .int .i64 5]) ∧ w' = w :=
  modp_RootN 7 3 w (by decide) (by decide) (by decide) (by decide) (by decide)
theorem aw_order (w : World) : Calls Tryd.prog 34 #[.int .u32 7, .int .u32 2] w fun e w' => e = .returned (.tuple #[.int .u64 3, .int .i64 0]) ∧ Below w.heap.size w w' :=
  (modp_Order 7 2 w pr7 (by decide) (by decide) (by decide)).mono fun e w' ⟨n, he, ho, _, _, hb⟩ => by
    obtain rfl : n = 3 := ho.unique ord72
    exact ⟨he, hb⟩
theorem aw_inv (w : World) : Calls Tryd.prog 32 #[.int .u32 7, .int .u32 3] w fun e w' => e = .returned (.tuple #[.int .u32 5, .int .i64 0]) ∧ w' = w :=
  modp_Inv 7 3 w (by decide) (by decide) (by decide) (by decide)
theorem aw_field7 (w : World) (hT : Tab w) : Calls Tryd.prog 15 #[.int .u32 7] w fun e w' => e = .returned (.int .i64 0) ∧ Below w.heap.size w w' := by
  have h := modp_Field 7 (by decide) w hT
  rw [errP_yes pr7 (by decide)] at h
  exact h
theorem aw_field9 (w : World) (hT : Tab w) : Calls Tryd.prog 15 #[.int .u32 9] w fun e w' => e = .returned (.int .i64 6) ∧ Below w.heap.size w w' := by
  have h := modp_Field 9 (by decide) w hT
  rw [errP_no (p := 9) (fun h => by rcases h.1.2 3 ⟨3, rfl⟩ with h | h <;> cases h)] at h
  exact h
theorem aw_of (w : World) : Calls Tryd.prog 70 #[.int .i64 (-1)] w (RetT2 true (lim 1) w) := ref02_Of_neg 1 w (by decide) (by decide)
theorem aw_from (a : Option Addr) (n cap : Nat) (w : World) (ha : Sl w a n cap (lim 1)) : Calls Tryd.prog 19 #[.int .u32 7, .agg #[.bool (sg true n), .slice a n cap]] w fun e w' => e = .returned (.int .u32 6) ∧ Below w.heap.size w w' := by
  have hn : n = 1 := by rw [← ha.len, lim_one (by decide) (by decide)]; rfl
  have h := modp_From 7 (sg true n) a n cap (lim 1) w ha (by omega) (lim_canon 1) (by decide) (by decide)
  rw [valN_lim] at h
  have e : remZ 7 (sg true n) 1 = 6 := by rw [sg_t1 (by omega)]; decide
  rw [e] at h
  exact h
set_option maxRecDepth 100000 in
set_option maxHeartbeats 1000000 in
theorem awake07 (w : World) (hT : Tab w) (hT3 : Tab32 w) :
    Calls Tryd.prog 18 #[] w fun e w' => e = .returned (.bool true) ∧ Below w.heap.size w w' := by
  go_enter Tryd.func18, Tryd.ntmps18
  go_wp2_with fail
  refine (aw_root1 w hT3).mono ?_
  rintro e w' ⟨rfl, rfl⟩
  go_wp2_with fail
  refine (aw_root2 _).mono ?_
  rintro e w' ⟨rfl, rfl⟩
  go_wp2_with fail
  refine (aw_order _).mono ?_
  rintro e w1 ⟨rfl, hb1⟩
  go_wp2_with fail
  refine (aw_inv _).mono ?_
  rintro e w' ⟨rfl, rfl⟩
  go_wp2_with fail
  refine (modp_Inv0 7 _).mono ?_
  rintro e w' ⟨rfl, rfl⟩
  have hT1 := hT.mono hb1
  go_wp2_with fail
  refine (aw_field7 _ hT1).mono ?_
  rintro e w2 ⟨rfl, hb2⟩
  have hT2 := hT1.mono hb2
  go_wp2_with fail
  refine (aw_field9 _ hT2).mono ?_
  rintro e w3 ⟨rfl, hb3⟩
  go_wp2_with fail
  refine (modp_Add 7 5 4 _ (by decide) (by decide) (by decide) (by decide)).mono ?_
  rintro e w' ⟨rfl, rfl⟩
  rw [show addM 7 5 4 = 2 from rfl]
  go_wp2_with fail
  refine (modp_Sub 7 2 5 _ (by decide) (by decide) (by decide) (by decide)).mono ?_
  rintro e w' ⟨rfl, rfl⟩
  rw [show subM 7 2 5 = 4 from rfl]
  go_wp2_with fail
  refine (modp_Mul 7 3 5 _ (by decide) (by decide) (by decide) (by decide)).mono ?_
  rintro e w' ⟨rfl, rfl⟩
  rw [show mulM 7 3 5 = 1 from rfl]
  go_wp2_with fail
  refine (modp_Neg 7 0 _ (by decide) (by decide)).mono ?_
  rintro e w' ⟨rfl, rfl⟩
  rw [show negM 7 0 = 0 from rfl]
  go_wp2_with fail
  refine (modp_Neg 7 3 _ (by decide) (by decide)).mono ?_
  rintro e w' ⟨rfl, rfl⟩
  rw [show negM 7 3 = 4 from rfl]
  go_wp2_with fail
  refine (modp_Pow 7 3 2 _ (by decide) (by decide) (by decide) (by decide)).mono ?_
  rintro e w' ⟨rfl, rfl⟩
  rw [show powM 7 3 2 = 2 from rfl]
  go_wp2_with fail
  refine (aw_of _).mono ?_
  rintro e w4 ⟨a, n, cap, rfl, hs4, hb4, _⟩
  go_wp2_with fail
  refine (aw_from a n cap _ hs4).mono ?_
  rintro e w5 ⟨rfl, hb5⟩
  go_wp2
  go_ret
  exact ⟨rfl, btrans (btrans (btrans (btrans hb1 hb2) hb3) hb4) hb5⟩
end Go.Proofs.YtbnjmeeaaieicaaDoor
