/- algebristlaw07: may; the walks of ModpSums, ModpInverses, ModpPowers, ModpLaws. -/
import Derived.Test.YtcdflpkbdabljaaDoorW77
open Alg Go Go.RowKit
namespace Alg
/-- elements of a field may be asked -/
def MayP (p a b : Nat) : Prop := IsPr p ∧ p < 2147483648 ∧ a < p ∧ b < p
theorem eq_of_of {p : Nat} [NeZero p] {x y : Nat} (hx : x < p) (hy : y < p) (h : (Fp.of x : Fp p) = Fp.of y) : x = y := Fp.of_inj hx hy h
end Alg
namespace Go.Proofs.YtcdflpkbdabljaaDoor
open Go.RowKit
theorem may_yes (p a b : Nat) (w : World) (h : MayP p a b) :
    Calls Tryd.prog 19 #[.int .u32 p, .int .u32 a, .int .u32 b] w fun e w' => e = .returned (.bool true) ∧ w' = w := by
  obtain ⟨hp, h2, ha, hb⟩ := h
  have HE := Alg.hid (errP_yes hp h2)
  go_enter Tryd.func19, Tryd.ntmps19
  go_wp2_with fail
  refine (ref_Field p _ (by omega)).mono ?_
  rw [HE.out]
  rintro e w' ⟨rfl, rfl⟩
  go_wp2
  go_ret
  exact ⟨rfl, rfl⟩
theorem may_no (p a b : Nat) (w : World) (h : ¬ MayP p a b) (hp : p < 4294967296) :
    Calls Tryd.prog 19 #[.int .u32 p, .int .u32 a, .int .u32 b] w fun e w' => e = .returned (.bool false) ∧ w' = w := by
  by_cases hf : IsPr p ∧ p < 2147483648
  · have HE := Alg.hid (errP_yes hf.1 hf.2)
    by_cases hap : a < p
    · have hbp : ¬ b < p := fun hb => h ⟨hf.1, hf.2, hap, hb⟩
      clear h hf
      go_enter Tryd.func19, Tryd.ntmps19
      go_wp2_with fail
      refine (ref_Field p _ hp).mono ?_
      rw [HE.out]
      rintro e w' ⟨rfl, rfl⟩
      go_wp2
      go_ret
      exact ⟨rfl, rfl⟩
    · clear h hf
      go_enter Tryd.func19, Tryd.ntmps19
      go_wp2_with fail
      refine (ref_Field p _ hp).mono ?_
      rw [HE.out]
      rintro e w' ⟨rfl, rfl⟩
      go_wp2
      go_ret
      exact ⟨rfl, rfl⟩
  · have HE := Alg.hid (errP_no hf)
    clear h hf
    go_enter Tryd.func19, Tryd.ntmps19
    go_wp2_with fail
    refine (ref_Field p _ hp).mono ?_
    rw [HE.out]
    rintro e w' ⟨rfl, rfl⟩
    go_wp2
    go_ret
    exact ⟨rfl, rfl⟩
set_option maxRecDepth 100000 in
set_option maxHeartbeats 1000000 in
theorem sums_walk (p a b : Nat) (hp : p < 4294967296) (ha : a < 4294967296) (hb : b < 4294967296) (w : World) (hT : Tab w) (hT3 : Tab32 w) :
    Calls Tryd.prog 4 #[.int .u32 p, .int .u32 a, .int .u32 b] w fun e w' => e = .returned (.bool true) ∧ Below w.heap.size w w' := by
  by_cases hm : MayP p a b
  · obtain ⟨hpr, hp2, hap, hbp⟩ := hm
    haveI hne : NeZero p := ⟨by have := hpr.1; omega⟩
    have hp1 : 1 < p := hpr.1
    have hp0 : 0 < p := by omega
    have MAY : Hid (MayP p a b) := ⟨hpr, hp2, hap, hbp⟩
    go_enter Tryd.func4, Tryd.ntmps4
    go_wp2_with fail
    refine (may_yes p a b _ MAY.out).mono ?_
    rintro e w' ⟨rfl, rfl⟩
    go_wp2_with fail
    refine (awake07 _ hT hT3).mono ?_
    rintro e w1 ⟨rfl, hb1⟩
    go_wp2_with fail
    refine (modp_Add p a b _ hp0 hp ha (by omega)).mono ?_
    rintro e w' ⟨rfl, rfl⟩
    go_wp2_with fail
    refine (ref07_Add p a b _ hp0 hp ha (by omega)).mono ?_
    rintro e w' ⟨rfl, rfl⟩
    go_wp2_with fail
    refine (modp_Sub p a b _ hp0 hp ha (by omega)).mono ?_
    rintro e w' ⟨rfl, rfl⟩
    go_wp2_with fail
    refine (ref07_Sub p a b _ hp0 hp ha (by omega)).mono ?_
    rintro e w' ⟨rfl, rfl⟩
    go_wp2_with fail
    refine (modp_Mul p a b _ hp0 hp ha (by omega)).mono ?_
    rintro e w' ⟨rfl, rfl⟩
    go_wp2_with fail
    refine (ref07_Mul p a b _ hp0 hp ha (by omega)).mono ?_
    rintro e w' ⟨rfl, rfl⟩
    go_wp2_with fail
    refine (modp_Neg p a _ hp (by omega)).mono ?_
    rintro e w' ⟨rfl, rfl⟩
    go_wp2_with fail
    refine (ref07_Neg p a _ hp0 hp (by omega)).mono ?_
    rintro e w' ⟨rfl, rfl⟩
    go_wp2
    go_ret
    exact ⟨rfl, hb1⟩
  · have HM := Alg.hid hm
    clear hm
    go_enter Tryd.func4, Tryd.ntmps4
    go_wp2_with fail
    refine (may_no p a b _ HM.out hp).mono ?_
    rintro e w' ⟨rfl, rfl⟩
    go_wp2_with fail
    refine (awake07 _ hT hT3).mono ?_
    rintro e w1 ⟨rfl, hb1⟩
    go_wp2
    go_ret
    exact ⟨rfl, hb1⟩
set_option maxRecDepth 100000 in
set_option maxHeartbeats 1000000 in
theorem inverses_walk (p a b : Nat) (hp : p < 4294967296) (ha : a < 4294967296) (hb : b < 4294967296) (w : World) (hT : Tab w) (hT3 : Tab32 w) :
    Calls Tryd.prog 6 #[.int .u32 p, .int .u32 a, .int .u32 b] w fun e w' => e = .returned (.bool true) ∧ Below w.heap.size w w' := by
  by_cases hm : MayP p a b
  · obtain ⟨hpr, hp2, hap, hbp⟩ := hm
    haveI hne : NeZero p := ⟨by have := hpr.1; omega⟩
    have hp1 : 1 < p := hpr.1
    have hp0 : 0 < p := by omega
    have MAY : Hid (MayP p a b) := ⟨hpr, hp2, hap, hbp⟩
    by_cases ha0 : a = 0
    · subst ha0
      go_enter Tryd.func6, Tryd.ntmps6
      go_wp2_with fail
      refine (may_yes p 0 b _ MAY.out).mono ?_
      rintro e w' ⟨rfl, rfl⟩
      go_wp2_with fail
      refine (modp_Inv0 p _).mono ?_
      rintro e w' ⟨rfl, rfl⟩
      go_wp2_with fail
      refine (ref07_Inv0 p _).mono ?_
      rintro e w' ⟨rfl, rfl⟩
      go_wp2_with fail
      refine (awake07 _ hT hT3).mono ?_
      rintro e w1 ⟨rfl, hb1⟩
      go_wp2
      go_ret
      exact ⟨rfl, hb1⟩
    · have hg0 : ((a : Int) == 0) = false := by simp; omega
      obtain ⟨X, hX⟩ : ∃ X, X = powM p a (p - 2) := ⟨_, rfl⟩
      have hXp : X < p := by rw [hX]; exact powM_lt _ _ _ hp0
      have hXo : (Fp.of X : Fp p) = Fp.inv (Fp.of a) := by rw [hX, powM_of]; rfl
      have E1 : Hid (mulM p a X = 1) := eq_of_of (mulM_lt _ _ _ hp0) hp1 (by rw [of_mulM, hXo, Fp.mul_inv hpr (of_ne ha0 hap), Fp.of_one])
      have E2 : Hid (mulM p (mulM p b a) X = b) := eq_of_of (mulM_lt _ _ _ hp0) hbp (by rw [of_mulM, of_mulM, hXo, CR.mul_assoc, Fp.mul_inv hpr (of_ne ha0 hap), CR.mul_one])
      have HX := Alg.hid hX
      have hba := mulM_lt p b a hp0
      clear hX hXo
      go_enter Tryd.func6, Tryd.ntmps6
      go_wp2_with fail
      refine (may_yes p a b _ MAY.out).mono ?_
      rintro e w' ⟨rfl, rfl⟩
      go_wp2_with fail
      refine (modp_Inv p a _ hp1 hp ha ha0).mono ?_
      rw [← HX.out]
      rintro e w' ⟨rfl, rfl⟩
      go_wp2_with fail
      refine (ref07_Inv p a _ hp1 hp ha ha0).mono ?_
      rw [← HX.out]
      rintro e w' ⟨rfl, rfl⟩
      go_wp2_with fail
      refine (awake07 _ hT hT3).mono ?_
      rintro e w1 ⟨rfl, hb1⟩
      go_wp2_with fail
      refine (modp_Mul p a X _ hp0 hp ha (by omega)).mono ?_
      rw [E1.out]
      rintro e w' ⟨rfl, rfl⟩
      go_wp2_with fail
      refine (modp_Mul p b a _ hp0 hp hb ha).mono ?_
      rintro e w' ⟨rfl, rfl⟩
      go_wp2_with fail
      refine (modp_Mul p (mulM p b a) X _ hp0 hp (by omega) (by omega)).mono ?_
      rw [E2.out]
      rintro e w' ⟨rfl, rfl⟩
      go_wp2
      go_ret
      exact ⟨rfl, hb1⟩
  · have HM := Alg.hid hm
    clear hm
    go_enter Tryd.func6, Tryd.ntmps6
    go_wp2_with fail
    refine (may_no p a b _ HM.out hp).mono ?_
    rintro e w' ⟨rfl, rfl⟩
    go_wp2_with fail
    refine (awake07 _ hT hT3).mono ?_
    rintro e w1 ⟨rfl, hb1⟩
    go_wp2
    go_ret
    exact ⟨rfl, hb1⟩
set_option maxRecDepth 100000 in
set_option maxHeartbeats 1000000 in
theorem powers_walk07 (p a n m : Nat) (hp : p < 4294967296) (ha : a < 4294967296) (hn : n < 18446744073709551616) (hm' : m < 18446744073709551616) (w : World) (hT : Tab w) (hT3 : Tab32 w) :
    Calls Tryd.prog 5 #[.int .u32 p, .int .u32 a, .agg #[.int .u64 (n : Int), .int .u64 (m : Int)]] w fun e w' => e = .returned (.bool true) ∧ Below w.heap.size w w' := by
  have hbx := boxes1 w #[.int .u64 (n : Int), .int .u64 (m : Int)] 36
  have hTx : Tab (w.alloc (.cells #[.int .u64 (n : Int), .int .u64 (m : Int)] 36)) := hT.mono hbx.below
  have hT3x : Tab32 (w.alloc (.cells #[.int .u64 (n : Int), .int .u64 (m : Int)] 36)) := hT3.mono hbx.below
  by_cases hm : MayP p a 0
  · obtain ⟨hpr, hp2, hap, hbp⟩ := hm
    haveI hne : NeZero p := ⟨by have := hpr.1; omega⟩
    have hp1 : 1 < p := hpr.1
    have hp0 : 0 < p := by omega
    have MAY : Hid (MayP p a 0) := ⟨hpr, hp2, hap, hbp⟩
    have E1 : Hid (powM p a p = a) := fermat_P hpr hap
    have E2 : Hid (mulM p (powM p a n) (powM p a m) = powM p a (n + m)) := by
      show _ = _
      unfold mulM powM
      rw [← Nat.mul_mod, Nat.pow_add]
    obtain ⟨X, hX⟩ : ∃ X, X = powM p a n := ⟨_, rfl⟩
    obtain ⟨Y, hY⟩ : ∃ Y, Y = powM p a m := ⟨_, rfl⟩
    have hXp : X < p := by rw [hX]; exact powM_lt _ _ _ hp0
    have hYp : Y < p := by rw [hY]; exact powM_lt _ _ _ hp0
    rw [← hX, ← hY] at E2
    have HX := Alg.hid hX
    have HY := Alg.hid hY
    clear hX hY
    have HN := Alg.hid hn
    have HM' := Alg.hid hm'
    go_enter Tryd.func5, Tryd.ntmps5
    go_wp2_with fail
    refine (may_yes p a 0 _ MAY.out).mono ?_
    rintro e w' ⟨rfl, rfl⟩
    have c0 := hbx.cell' 0 0 _ _ rfl rfl
    have c1 := hbx.cell' 0 1 _ _ rfl rfl
    simp only [Nat.add_zero] at c0 c1
    go_wp2
    go_quiet (fail)
    obtain ⟨W, hW⟩ : ∃ W, W = (w.alloc (.cells #[.int .u64 (n : Int), .int .u64 (m : Int)] 36)).drewN nq := ⟨_, rfl⟩
    have hbW : Below w.heap.size w W := by rw [hW]; exact (hbx.drewN nq).below
    rw [← hW]
    clear hW c0 c1
    go_wp2_with fail
    refine (modp_Pow p a n _ hp0 hp ha HN.out).mono ?_
    rw [← HX.out]
    rintro e w' ⟨rfl, rfl⟩
    go_wp2_with fail
    refine (ref07_Pow p a n _ hp1 hp ha HN.out).mono ?_
    rw [← HX.out]
    rintro e w' ⟨rfl, rfl⟩
    go_wp2_with fail
    refine (modp_Pow p a p _ hp0 hp ha (by omega)).mono ?_
    rw [E1.out]
    rintro e w' ⟨rfl, rfl⟩
    by_cases hbig : 4611686018427387904 < n ∨ 4611686018427387904 < m
    · by_cases hb1 : 4611686018427387904 < n
      · have hb1' : (4611686018427387904 : Int) < (n : Int) := by omega
        clear hbig
        go_wp2_with fail
        refine (awake07 _ (hT.mono hbW) (hT3.mono hbW)).mono ?_
        rintro e w1 ⟨rfl, hb1⟩
        go_wp2
        go_ret
        exact ⟨rfl, hbW.trans (hb1.mono hbW.size)⟩
      · have hb1' : ¬ (4611686018427387904 : Int) < (n : Int) := by omega
        have hb2' : (4611686018427387904 : Int) < (m : Int) := by omega
        clear hbig
        go_wp2_with fail
        refine (awake07 _ (hT.mono hbW) (hT3.mono hbW)).mono ?_
        rintro e w1 ⟨rfl, hb1⟩
        go_wp2
        go_ret
        exact ⟨rfl, hbW.trans (hb1.mono hbW.size)⟩
    · have hb1' : ¬ (4611686018427387904 : Int) < (n : Int) := by omega
      have hb2' : ¬ (4611686018427387904 : Int) < (m : Int) := by omega
      obtain ⟨s, hs⟩ : ∃ s, s = n + m := ⟨_, rfl⟩
      have es : (n : Int) + (m : Int) = (s : Int) := by omega
      have hsl : s < 18446744073709551616 := by omega
      rw [← hs] at E2
      clear hbig hs
      go_wp2_with fail
      refine (awake07 _ (hT.mono hbW) (hT3.mono hbW)).mono ?_
      rintro e w1 ⟨rfl, hb1⟩
      go_wp2_with fail
      refine (modp_Pow p a n _ hp0 hp ha HN.out).mono ?_
      rw [← HX.out]
      rintro e w' ⟨rfl, rfl⟩
      go_wp2_with fail
      refine (modp_Pow p a m _ hp0 hp ha HM'.out).mono ?_
      rw [← HY.out]
      rintro e w' ⟨rfl, rfl⟩
      go_wp2_with fail
      refine (modp_Mul p X Y _ hp0 hp (by omega) (by omega)).mono ?_
      rw [E2.out]
      rintro e w' ⟨rfl, rfl⟩
      go_wp2_with fail
      refine (modp_Pow p a s _ hp0 hp ha hsl).mono ?_
      rintro e w' ⟨rfl, rfl⟩
      go_wp2
      go_ret
      exact ⟨rfl, hbW.trans (hb1.mono hbW.size)⟩
  · have HM := Alg.hid hm
    clear hm
    go_enter Tryd.func5, Tryd.ntmps5
    go_wp2_with fail
    refine (may_no p a 0 _ HM.out hp).mono ?_
    rintro e w' ⟨rfl, rfl⟩
    go_wp2_with fail
    refine (awake07 _ hTx hT3x).mono ?_
    rintro e w1 ⟨rfl, hb1⟩
    go_wp2
    go_ret
    exact ⟨rfl, hbx.below.trans (hb1.mono hbx.below.size)⟩
set_option maxRecDepth 100000 in
set_option maxHeartbeats 1000000 in
theorem laws_walk (p a b c : Nat) (hp : p < 4294967296) (ha : a < 4294967296) (hb : b < 4294967296) (hc : c < 4294967296) (w : World) (hT : Tab w) (hT3 : Tab32 w) :
    Calls Tryd.prog 11 #[.int .u32 p, .agg #[.int .u32 (a : Int), .int .u32 (b : Int), .int .u32 (c : Int)]] w fun e w' => e = .returned (.bool true) ∧ Below w.heap.size w w' := by
  have hbx := boxes1 w #[.int .u32 (a : Int), .int .u32 (b : Int), .int .u32 (c : Int)] 44
  have c0 := hbx.cell' 0 0 _ _ rfl rfl
  have c1 := hbx.cell' 0 1 _ _ rfl rfl
  have c2 := hbx.cell' 0 2 _ _ rfl rfl
  simp only [Nat.add_zero] at c0 c1 c2
  by_cases hm : MayP p a b
  · obtain ⟨hpr, hp2, hap, hbp⟩ := hm
    haveI hne : NeZero p := ⟨by have := hpr.1; omega⟩
    have hp1 : 1 < p := hpr.1
    have hp0 : 0 < p := by omega
    have MAY : Hid (MayP p a b) := ⟨hpr, hp2, hap, hbp⟩
    by_cases hcp : c < p
    · obtain ⟨s, hs⟩ : ∃ s, s = addM p a b := ⟨_, rfl⟩
      obtain ⟨t, ht⟩ : ∃ t, t = mulM p a b := ⟨_, rfl⟩
      have hsp : s < p := by rw [hs]; exact addM_lt _ _ _ hp0
      have htp : t < p := by rw [ht]; exact mulM_lt _ _ _ hp0
      have E1 : Hid (addM p b a = s) := by rw [hs]; exact eq_of_of (addM_lt _ _ _ hp0) (addM_lt _ _ _ hp0) (by rw [of_addM, of_addM, CR.add_comm])
      have E2 : Hid (mulM p b a = t) := by rw [ht]; exact eq_of_of (mulM_lt _ _ _ hp0) (mulM_lt _ _ _ hp0) (by rw [of_mulM, of_mulM, CR.mul_comm])
      obtain ⟨u1, hu1⟩ : ∃ u, u = addM p s c := ⟨_, rfl⟩
      obtain ⟨v1, hv1⟩ : ∃ v, v = addM p b c := ⟨_, rfl⟩
      have hu1p : u1 < p := by rw [hu1]; exact addM_lt _ _ _ hp0
      have hv1p : v1 < p := by rw [hv1]; exact addM_lt _ _ _ hp0
      have E3 : Hid (addM p a v1 = u1) := by rw [hv1, hu1, hs]; exact eq_of_of (addM_lt _ _ _ hp0) (addM_lt _ _ _ hp0) (by rw [of_addM, of_addM, of_addM, of_addM, CR.add_assoc])
      obtain ⟨u2, hu2⟩ : ∃ u, u = mulM p t c := ⟨_, rfl⟩
      obtain ⟨v2, hv2⟩ : ∃ v, v = mulM p b c := ⟨_, rfl⟩
      have hu2p : u2 < p := by rw [hu2]; exact mulM_lt _ _ _ hp0
      have hv2p : v2 < p := by rw [hv2]; exact mulM_lt _ _ _ hp0
      have E4 : Hid (mulM p a v2 = u2) := by rw [hv2, hu2, ht]; exact eq_of_of (mulM_lt _ _ _ hp0) (mulM_lt _ _ _ hp0) (by rw [of_mulM, of_mulM, of_mulM, of_mulM, CR.mul_assoc])
      obtain ⟨u3, hu3⟩ : ∃ u, u = mulM p s c := ⟨_, rfl⟩
      obtain ⟨v3, hv3⟩ : ∃ v, v = mulM p a c := ⟨_, rfl⟩
      have hu3p : u3 < p := by rw [hu3]; exact mulM_lt _ _ _ hp0
      have hv3p : v3 < p := by rw [hv3]; exact mulM_lt _ _ _ hp0
      have E5 : Hid (addM p v3 v2 = u3) := by rw [hv3, hv2, hu3, hs]; exact eq_of_of (addM_lt _ _ _ hp0) (mulM_lt _ _ _ hp0) (by rw [of_addM, of_mulM, of_mulM, of_mulM, of_addM, CR.add_mul])
      have hna := negM_le p a
      have E6 : Hid (addM p a (negM p a) = 0) := eq_of_of (addM_lt _ _ _ hp0) hp0 (by rw [of_addM, of_negM _ (by omega), CR.add_neg, Fp.of_zero])
      have E7 : Hid (subM p s b = a) := by rw [hs]; exact eq_of_of (subM_lt _ _ _ hp0) hap (by rw [of_subM _ _ (by omega), of_addM, CR.add_assoc, CR.add_neg, CR.add_zero])
      have E8 : Hid (addM p a 0 = a) := eq_of_of (addM_lt _ _ _ hp0) hap (by rw [of_addM, Fp.of_zero, CR.add_zero])
      have E9 : Hid (mulM p a 1 = a) := eq_of_of (mulM_lt _ _ _ hp0) hap (by rw [of_mulM, Fp.of_one, CR.mul_one])
      have HS := Alg.hid hs
      have HT' := Alg.hid ht
      have HU1 := Alg.hid hu1
      have HV1 := Alg.hid hv1
      have HU2 := Alg.hid hu2
      have HV2 := Alg.hid hv2
      have HU3 := Alg.hid hu3
      have HV3 := Alg.hid hv3
      have hcp' : ¬ (p : Int) ≤ (c : Int) := by omega
      clear hs ht hu1 hv1 hu2 hv2 hu3 hv3
      go_enter Tryd.func11, Tryd.ntmps11
      go_wp2
      go_quiet (fail)
      obtain ⟨W, hW⟩ : ∃ W, W = (w.alloc (.cells #[.int .u32 (a : Int), .int .u32 (b : Int), .int .u32 (c : Int)] 44)).drewN nq := ⟨_, rfl⟩
      have hbW : Below w.heap.size w W := by rw [hW]; exact (hbx.drewN nq).below
      rw [← hW]
      clear hW c0 c1 c2
      have hTW := hT.mono hbW
      have hT3W := hT3.mono hbW
      go_wp2_with fail
      refine (may_yes p a b _ MAY.out).mono ?_
      rintro e w' ⟨rfl, rfl⟩
      go_wp2_with fail
      refine (modp_Add p a b _ hp0 hp (by omega) (by omega)).mono ?_
      rw [← HS.out]
      rintro e w' ⟨rfl, rfl⟩
      go_wp2_with fail
      refine (modp_Mul p a b _ hp0 hp (by omega) (by omega)).mono ?_
      rw [← HT'.out]
      rintro e w' ⟨rfl, rfl⟩
      go_wp2_with fail
      refine (awake07 _ hTW hT3W).mono ?_
      rintro e w1 ⟨rfl, hb1⟩
      go_wp2_with fail
      refine (modp_Add p b a _ hp0 hp (by omega) (by omega)).mono ?_
      rw [E1.out]
      rintro e w' ⟨rfl, rfl⟩
      go_wp2_with fail
      refine (modp_Mul p b a _ hp0 hp (by omega) (by omega)).mono ?_
      rw [E2.out]
      rintro e w' ⟨rfl, rfl⟩
      go_wp2_with fail
      refine (modp_Add p s c _ hp0 hp (by omega) (by omega)).mono ?_
      rw [← HU1.out]
      rintro e w' ⟨rfl, rfl⟩
      go_wp2_with fail
      refine (modp_Add p b c _ hp0 hp (by omega) (by omega)).mono ?_
      rw [← HV1.out]
      rintro e w' ⟨rfl, rfl⟩
      go_wp2_with fail
      refine (modp_Add p a v1 _ hp0 hp (by omega) (by omega)).mono ?_
      rw [E3.out]
      rintro e w' ⟨rfl, rfl⟩
      go_wp2_with fail
      refine (modp_Mul p t c _ hp0 hp (by omega) (by omega)).mono ?_
      rw [← HU2.out]
      rintro e w' ⟨rfl, rfl⟩
      go_wp2_with fail
      refine (modp_Mul p b c _ hp0 hp (by omega) (by omega)).mono ?_
      rw [← HV2.out]
      rintro e w' ⟨rfl, rfl⟩
      go_wp2_with fail
      refine (modp_Mul p a v2 _ hp0 hp (by omega) (by omega)).mono ?_
      rw [E4.out]
      rintro e w' ⟨rfl, rfl⟩
      go_wp2_with fail
      refine (modp_Mul p s c _ hp0 hp (by omega) (by omega)).mono ?_
      rw [← HU3.out]
      rintro e w' ⟨rfl, rfl⟩
      go_wp2_with fail
      refine (modp_Mul p a c _ hp0 hp (by omega) (by omega)).mono ?_
      rw [← HV3.out]
      rintro e w' ⟨rfl, rfl⟩
      go_wp2_with fail
      refine (modp_Mul p b c _ hp0 hp (by omega) (by omega)).mono ?_
      rw [← HV2.out]
      rintro e w' ⟨rfl, rfl⟩
      go_wp2_with fail
      refine (modp_Add p v3 v2 _ hp0 hp (by omega) (by omega)).mono ?_
      rw [E5.out]
      rintro e w' ⟨rfl, rfl⟩
      go_wp2_with fail
      refine (modp_Neg p a _ hp (by omega)).mono ?_
      rintro e w' ⟨rfl, rfl⟩
      go_wp2_with fail
      refine (modp_Add p a (negM p a) _ hp0 hp (by omega) (by omega)).mono ?_
      rw [E6.out]
      rintro e w' ⟨rfl, rfl⟩
      go_wp2_with fail
      refine (modp_Sub p s b _ hp0 hp (by omega) (by omega)).mono ?_
      rw [E7.out]
      rintro e w' ⟨rfl, rfl⟩
      go_wp2_with fail
      refine (modp_Add p a 0 _ hp0 hp (by omega) (by omega)).mono ?_
      rw [E8.out]
      rintro e w' ⟨rfl, rfl⟩
      go_wp2_with fail
      refine (modp_Mul p a 1 _ hp0 hp (by omega) (by omega)).mono ?_
      rw [E9.out]
      rintro e w' ⟨rfl, rfl⟩
      go_wp2
      go_ret
      exact ⟨rfl, hbW.trans (hb1.mono hbW.size)⟩
    · have hcp' : (p : Int) ≤ (c : Int) := by omega
      go_enter Tryd.func11, Tryd.ntmps11
      go_wp2
      go_quiet (fail)
      obtain ⟨W, hW⟩ : ∃ W, W = (w.alloc (.cells #[.int .u32 (a : Int), .int .u32 (b : Int), .int .u32 (c : Int)] 44)).drewN nq := ⟨_, rfl⟩
      have hbW : Below w.heap.size w W := by rw [hW]; exact (hbx.drewN nq).below
      rw [← hW]
      clear hW c0 c1 c2
      have hTW := hT.mono hbW
      have hT3W := hT3.mono hbW
      go_wp2_with fail
      refine (may_yes p a b _ MAY.out).mono ?_
      rintro e w' ⟨rfl, rfl⟩
      go_wp2_with fail
      refine (awake07 _ hTW hT3W).mono ?_
      rintro e w1 ⟨rfl, hb1⟩
      go_wp2
      go_ret
      exact ⟨rfl, hbW.trans (hb1.mono hbW.size)⟩
  · have HM := Alg.hid hm
    clear hm
    go_enter Tryd.func11, Tryd.ntmps11
    go_wp2
    go_quiet (fail)
    obtain ⟨W, hW⟩ : ∃ W, W = (w.alloc (.cells #[.int .u32 (a : Int), .int .u32 (b : Int), .int .u32 (c : Int)] 44)).drewN nq := ⟨_, rfl⟩
    have hbW : Below w.heap.size w W := by rw [hW]; exact (hbx.drewN nq).below
    rw [← hW]
    clear hW c0 c1 c2
    have hTW := hT.mono hbW
    have hT3W := hT3.mono hbW
    go_wp2_with fail
    refine (may_no p a b _ HM.out hp).mono ?_
    rintro e w' ⟨rfl, rfl⟩
    go_wp2_with fail
    refine (awake07 _ hTW hT3W).mono ?_
    rintro e w1 ⟨rfl, hb1⟩
    go_wp2
    go_ret
    exact ⟨rfl, hbW.trans (hb1.mono hbW.size)⟩
end Go.Proofs.YtcdflpkbdabljaaDoor
