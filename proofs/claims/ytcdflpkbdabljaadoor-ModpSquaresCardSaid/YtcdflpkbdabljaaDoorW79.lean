/- algebristlaw07: the walks of ModpOrders, ModpLeast, ModpRoots, ModpSquares. -/
import Derived.Test.YtcdflpkbdabljaaDoorW78
open Alg Go Go.RowKit
namespace Alg
theorem has_root_of {p : Nat} [NeZero p] (hp : IsPr p) {a : Nat} : ∀ (k X T C : Nat), TS p a (k + 1) X T C → ∃ x, x < p ∧ (Fp.of x : Fp p) * Fp.of x = Fp.of a
  | 0, X, T, C, h => by
    have t1 := h.end1 hp
    subst t1
    exact ⟨X, h.hX, h.done⟩
  | k + 1, X, T, C, h => by
    by_cases h1 : CR.pw (Fp.of T : Fp p) (2 ^ (k + 1 - 1)) = 1
    · exact has_root_of hp k _ _ _ (h.down1 hp (by omega) h1)
    · exact has_root_of hp k _ _ _ (h.down2 hp (by omega) h1)
theorem has_root {p : Nat} [NeZero p] (hp : IsPr p) (h3 : 2 < p) (h4 : p < 4294967296) {a : Nat} (hsq : powM p a ((p - 1) / 2) = 1) : ∃ x, x < p ∧ (Fp.of x : Fp p) * Fp.of x = Fp.of a := by
  obtain ⟨z, h5, h6, h7⟩ := nonres hp h3
  obtain ⟨s, d, _, _, hsp, hod, _⟩ := ctz32_split (n := p - 1) (by omega) (by omega)
  have hs1 := split_pos (odd_of hp h3) hsp (by omega) hod
  have h := TS.start hp hs1 hsp hod ((powM_eq_one hp).1 hsq) (other_neg hp h3 ⟨h5, h6, h7⟩)
  obtain ⟨k, rfl⟩ : ∃ k, s = k + 1 := ⟨s - 1, by omega⟩
  exact has_root_of hp k _ _ _ h
end Alg
namespace Go.Proofs.YtcdflpkbdabljaaDoor
open Go.RowKit
set_option maxRecDepth 100000 in
set_option maxHeartbeats 1000000 in
theorem orders_walk (p a : Nat) (hp : p < 4294967296) (ha : a < 4294967296) (w : World) (hT : Tab w) (hT3 : Tab32 w) :
    Calls Tryd.prog 7 #[.int .u32 p, .int .u32 a] w fun e w' => e = .returned (.bool true) ∧ Below w.heap.size w w' := by
  by_cases hm : MayP p a 0
  · obtain ⟨hpr, hp2, hap, hbp⟩ := hm
    haveI hne : NeZero p := ⟨by have := hpr.1; omega⟩
    have hp1 : 1 < p := hpr.1
    have hp0 : 0 < p := by omega
    have MAY : Hid (MayP p a 0) := ⟨hpr, hp2, hap, hbp⟩
    by_cases ha0 : a = 0
    · subst ha0
      go_enter Tryd.func7, Tryd.ntmps7
      go_wp2_with fail
      refine (may_yes p 0 0 _ MAY.out).mono ?_
      rintro e w' ⟨rfl, rfl⟩
      go_wp2_with fail
      refine (modp_Order0 p _).mono ?_
      rintro e w' ⟨rfl, rfl⟩
      go_wp2_with fail
      refine (ref07_Order0 p _).mono ?_
      rintro e w' ⟨rfl, rfl⟩
      go_wp2_with fail
      refine (awake07 _ hT hT3).mono ?_
      rintro e w1 ⟨rfl, hb1⟩
      go_wp2
      go_ret
      exact ⟨rfl, hb1⟩
    · have hg0 : ((a : Int) == 0) = false := by simp; omega
      go_enter Tryd.func7, Tryd.ntmps7
      go_wp2_with fail
      refine (may_yes p a 0 _ MAY.out).mono ?_
      rintro e w' ⟨rfl, rfl⟩
      go_wp2_with fail
      refine (modp_Order p a _ hpr hp ha0 hap).mono ?_
      rintro e w1 ⟨n, rfl, ho1, hd1, hl1, hb1⟩
      go_wp2_with fail
      refine (ref07_Order p a _ hpr hp ha0 hap).mono ?_
      rintro e w2 ⟨m, rfl, ho2, _, _, hb2⟩
      have hmn : m = n := ho2.unique ho1
      have HMN := Alg.hid hmn
      have n0 : 0 < n := ho1.1
      have nz : ((n : Int) == 0) = false := by simp; omega
      have E1 : Hid (powM p a n = 1) := ho1.2.1
      obtain ⟨q, hq⟩ : ∃ q, q = p - 1 := ⟨_, rfl⟩
      have eq1 : (p : Int) - 1 = (q : Int) := by omega
      have eq2 : (q : Int) % (n : Int) = 0 := by
        rw [hq]
        have : ((p - 1 : Nat) : Int) % (n : Int) = (((p - 1) % n : Nat) : Int) := by simp
        rw [this, Nat.mod_eq_zero_of_dvd hd1]; rfl
      have hqp : q < p := by omega
      have hbB := hb1.trans (hb2.mono hb1.size)
      clear ho1 ho2 hd1 hq hmn
      rw [HMN.out]
      go_wp2_with fail
      refine (awake07 _ (hT.mono hbB) (hT3.mono hbB)).mono ?_
      rintro e w3 ⟨rfl, hb3⟩
      go_wp2_with fail
      refine (modp_Pow p a n _ hp0 hp ha (by omega)).mono ?_
      rw [E1.out]
      rintro e w' ⟨rfl, rfl⟩
      go_wp2
      go_ret
      exact ⟨rfl, hbB.trans (hb3.mono hbB.size)⟩
  · have HM := Alg.hid hm
    clear hm
    go_enter Tryd.func7, Tryd.ntmps7
    go_wp2_with fail
    refine (may_no p a 0 _ HM.out hp).mono ?_
    rintro e w' ⟨rfl, rfl⟩
    go_wp2_with fail
    refine (awake07 _ hT hT3).mono ?_
    rintro e w1 ⟨rfl, hb1⟩
    go_wp2
    go_ret
    exact ⟨rfl, hb1⟩
set_option maxRecDepth 100000 in
set_option maxHeartbeats 1000000 in
theorem least_walk (p a : Nat) (hp : p < 4294967296) (ha : a < 4294967296) (w : World) (hT : Tab w) (hT3 : Tab32 w) :
    Calls Tryd.prog 8 #[.int .u32 p, .int .u32 a] w fun e w' => e = .returned (.bool true) ∧ Below w.heap.size w w' := by
  by_cases hm : MayP p a 0
  · obtain ⟨hpr, hp2, hap, hbp⟩ := hm
    haveI hne : NeZero p := ⟨by have := hpr.1; omega⟩
    have hp1 : 1 < p := hpr.1
    have hp0 : 0 < p := by omega
    have MAY : Hid (MayP p a 0) := ⟨hpr, hp2, hap, hbp⟩
    by_cases hp4 : 400 < p
    · have hg4 : (400 : Int) < (p : Int) := by omega
      go_enter Tryd.func8, Tryd.ntmps8
      go_wp2_with fail
      refine (awake07 _ hT hT3).mono ?_
      rintro e w1 ⟨rfl, hb1⟩
      go_wp2
      go_ret
      exact ⟨rfl, hb1⟩
    have hg4 : ¬ (400 : Int) < (p : Int) := by omega
    by_cases ha0 : a = 0
    · subst ha0
      go_enter Tryd.func8, Tryd.ntmps8
      go_wp2_with fail
      refine (may_yes p 0 0 _ MAY.out).mono ?_
      rintro e w' ⟨rfl, rfl⟩
      go_wp2_with fail
      refine (awake07 _ hT hT3).mono ?_
      rintro e w1 ⟨rfl, hb1⟩
      go_wp2
      go_ret
      exact ⟨rfl, hb1⟩
    · have hg0 : ((a : Int) == 0) = false := by simp; omega
      go_enter Tryd.func8, Tryd.ntmps8
      go_wp2_with fail
      refine (may_yes p a 0 _ MAY.out).mono ?_
      rintro e w' ⟨rfl, rfl⟩
      go_wp2_with fail
      refine (modp_Order p a _ hpr hp ha0 hap).mono ?_
      rintro e w1 ⟨n, rfl, ho1, hd1, hl1, hb1⟩
      have n0 : 0 < n := ho1.1
      have HO := Alg.hid ho1
      clear ho1 hd1
      go_wp2
      go_loop [7, 8] (fun x i => ∃ k X : Nat, i = .int .u64 k ∧ x = .int .u32 X ∧ 1 ≤ k ∧ k ≤ n ∧ X < p ∧ Hid (X = a ^ (k - 1) % p)) (fun _ i => 401 - (intOf i).toNat)
      case atStart => exact ⟨1, 1, rfl, rfl, Nat.le_refl _, n0, hp1, by show 1 = a ^ 0 % p; rw [Nat.pow_zero, Nat.mod_eq_of_lt hp1]⟩
      case round =>
        obtain ⟨k, X, rfl, rfl, hk1, hkn, hX, hXe⟩ := hrel
        have hk4 : k ≤ 400 := by omega
        obtain ⟨Y, hY⟩ : ∃ Y, Y = mulM p X a := ⟨_, rfl⟩
        have hYp : Y < p := by rw [hY]; exact mulM_lt _ _ _ hp0
        have hYe : Y = a ^ k % p := by
          rw [hY, hXe.out, mulM, Nat.mod_mul_mod, ← Nat.pow_succ, show (k - 1).succ = k by omega]
        have HY := Alg.hid hY
        by_cases hY1 : Y = 1
        · have hkn' : n = k := Nat.le_antisymm (HO.out.2.2 k (by omega) (by rw [← hYe, hY1])) hkn
          have HY1 := Alg.hid hY1
          have hnk : (n : Int) = (k : Int) := by omega
          subst hkn'
          clear hY hYe hY1 hXe
          go_wp2_with fail
          refine (ref07_Mul p X a _ hp0 hp (by omega) ha).mono ?_
          rw [← HY.out, HY1.out]
          rintro e w' ⟨rfl, rfl⟩
          go_wp2_with fail
          refine (awake07 _ (hT.mono hb1) (hT3.mono hb1)).mono ?_
          rintro e w3 ⟨rfl, hb3⟩
          go_wp2
          go_ret
          exact ⟨rfl, hb1.trans (hb3.mono hb1.size)⟩
        · have hkl : k < n := by
            rcases Nat.lt_or_ge k n with h | h
            · exact h
            · have e : k = n := by omega
              rw [e, HO.out.2.1] at hYe
              exact absurd hYe hY1
          have hY1' : ((Y : Int) == 1) = false := by simp; omega
          have HYE : Hid (Y = a ^ (k + 1 - 1) % p) := by rw [Nat.add_sub_cancel]; exact hYe
          clear hY hYe hY1 hXe
          go_wp2_with fail
          refine (ref07_Mul p X a _ hp0 hp (by omega) ha).mono ?_
          rw [← HY.out]
          rintro e w' ⟨rfl, rfl⟩
          go_wp2
          go_round
          case rel => exact ⟨k + 1, Y, by go_num, rfl, by omega, by omega, hYp, HYE⟩
          case measure => simp [intOf]; omega
  · have HM := Alg.hid hm
    clear hm
    by_cases hp4 : 400 < p
    · have hg4 : (400 : Int) < (p : Int) := by omega
      go_enter Tryd.func8, Tryd.ntmps8
      go_wp2_with fail
      refine (awake07 _ hT hT3).mono ?_
      rintro e w1 ⟨rfl, hb1⟩
      go_wp2
      go_ret
      exact ⟨rfl, hb1⟩
    · have hg4 : ¬ (400 : Int) < (p : Int) := by omega
      go_enter Tryd.func8, Tryd.ntmps8
      go_wp2_with fail
      refine (may_no p a 0 _ HM.out hp).mono ?_
      rintro e w' ⟨rfl, rfl⟩
      go_wp2_with fail
      refine (awake07 _ hT hT3).mono ?_
      rintro e w1 ⟨rfl, hb1⟩
      go_wp2
      go_ret
      exact ⟨rfl, hb1⟩
set_option maxRecDepth 100000 in
set_option maxHeartbeats 1000000 in
theorem roots_walk (p a : Nat) (hp : p < 4294967296) (ha : a < 4294967296) (w : World) (hT : Tab w) (hT3 : Tab32 w) :
    Calls Tryd.prog 9 #[.int .u32 p, .int .u32 a] w fun e w' => e = .returned (.bool true) ∧ Below w.heap.size w w' := by
  by_cases hm : MayP p a 0
  · obtain ⟨hpr, hp2, hap, hbp⟩ := hm
    haveI hne : NeZero p := ⟨by have := hpr.1; omega⟩
    have hp1 : 1 < p := hpr.1
    have hp0 : 0 < p := by omega
    have MAY : Hid (MayP p a 0) := ⟨hpr, hp2, hap, hbp⟩
    by_cases h02 : a = 0 ∨ p = 2
    · have E1 : Hid (mulM p a a = a) := by
        show _ = _
        rcases h02 with h | h
        · subst h; exact eq_of_of (mulM_lt _ _ _ hp0) hp0 (by rw [of_mulM, Fp.of_zero, CR.zero_mul])
        · subst h
          have : a = 0 ∨ a = 1 := by omega
          rcases this with rfl | rfl <;> rfl
      obtain ⟨N, hN⟩ : ∃ N, N = negM p a := ⟨_, rfl⟩
      have hNa : a ≤ N := by
        rcases h02 with h | h
        · omega
        · subst h
          have : a = 0 ∨ a = 1 := by omega
          rcases this with rfl | rfl
          · omega
          · rw [hN]; exact Nat.le_refl _
      have hNl : N ≤ p := by rw [hN]; exact negM_le p a
      have HN := Alg.hid hN
      have H02 := Alg.hid h02
      clear hN h02
      go_enter Tryd.func9, Tryd.ntmps9
      go_wp2_with fail
      refine (may_yes p a 0 _ MAY.out).mono ?_
      rintro e w' ⟨rfl, rfl⟩
      go_wp2_with fail
      refine (modp_Root0 p a _ H02.out).mono ?_
      rintro e w' ⟨rfl, rfl⟩
      go_wp2_with fail
      refine (ref07_Root0 p a _ H02.out).mono ?_
      rintro e w' ⟨rfl, rfl⟩
      go_wp2_with fail
      refine (awake07 _ hT hT3).mono ?_
      rintro e w1 ⟨rfl, hb1⟩
      go_wp2_with fail
      refine (modp_Mul p a a _ hp0 hp (by omega) (by omega)).mono ?_
      rw [E1.out]
      rintro e w' ⟨rfl, rfl⟩
      go_wp2_with fail
      refine (modp_Neg p a _ hp (by omega)).mono ?_
      rw [← HN.out]
      rintro e w' ⟨rfl, rfl⟩
      go_wp2
      go_ret
      exact ⟨rfl, hb1⟩
    have h3 : 2 < p := by have := hpr.1; omega
    have ha0 : a ≠ 0 := fun e => h02 (Or.inl e)
    clear h02
    by_cases hsq : powM p a ((p - 1) / 2) = 1
    · obtain ⟨x, hx, hxx⟩ := has_root hpr h3 hp hsq
      obtain ⟨h5, h6, h7⟩ := rootN_spec hpr ha0 hap hx hxx
      obtain ⟨R, hR⟩ : ∃ R, R = rootN p a := ⟨_, rfl⟩
      rw [← hR] at h5 h6 h7
      obtain ⟨N, hN⟩ : ∃ N, N = negM p R := ⟨_, rfl⟩
      rw [← hN] at h7
      have hNl : N ≤ p := by rw [hN]; exact negM_le p R
      have HN := Alg.hid hN
      have E1 : Hid (mulM p R R = a) := h6
      have HR := Alg.hid hR
      have HSQ := Alg.hid hsq
      clear hsq hx hxx h6 hR hN
      go_enter Tryd.func9, Tryd.ntmps9
      go_wp2_with fail
      refine (may_yes p a 0 _ MAY.out).mono ?_
      rintro e w' ⟨rfl, rfl⟩
      go_wp2_with fail
      refine (modp_Root p a _ hpr h3 hp ha0 hap HSQ.out hT3).mono ?_
      rw [← HR.out]
      rintro e w' ⟨rfl, rfl⟩
      go_wp2_with fail
      refine (ref07_Root p a _ hpr h3 hp ha0 hap HSQ.out).mono ?_
      rw [← HR.out]
      rintro e w' ⟨rfl, rfl⟩
      go_wp2_with fail
      refine (awake07 _ hT hT3).mono ?_
      rintro e w1 ⟨rfl, hb1⟩
      go_wp2_with fail
      refine (modp_Mul p R R _ hp0 hp (by omega) (by omega)).mono ?_
      rw [E1.out]
      rintro e w' ⟨rfl, rfl⟩
      go_wp2_with fail
      refine (modp_Neg p R _ hp (by omega)).mono ?_
      rw [← HN.out]
      rintro e w' ⟨rfl, rfl⟩
      go_wp2
      go_ret
      exact ⟨rfl, hb1⟩
    · obtain ⟨q, hq⟩ : ∃ q, q = p - 1 := ⟨_, rfl⟩
      obtain ⟨H, hH⟩ : ∃ H, H = (p - 1) / 2 := ⟨_, rfl⟩
      have e2 : (p : Int) - 1 = (q : Int) := by omega
      have e1 : (q : Int) / 2 = (H : Int) := by omega
      have hHp : H < p := by omega
      have hqp : q < p := by omega
      have E1 : Hid (powM p a H = q) := by
        show _ = _
        rw [hH, hq]
        refine eq_of_of (powM_lt _ _ _ hp0) (by omega) ?_
        rw [powM_of, Fp.of_neg (by omega), Fp.of_one]
        rcases half_pm hpr h3 ha0 hap with h | h
        · exact absurd ((powM_eq_one hpr).2 h) hsq
        · exact h
      have HSQ := Alg.hid hsq
      clear hsq hq hH
      go_enter Tryd.func9, Tryd.ntmps9
      go_wp2_with fail
      refine (may_yes p a 0 _ MAY.out).mono ?_
      rintro e w' ⟨rfl, rfl⟩
      go_wp2_with fail
      refine (modp_RootN p a _ h3 hp ha0 hap HSQ.out).mono ?_
      rintro e w' ⟨rfl, rfl⟩
      go_wp2_with fail
      refine (ref07_RootN p a _ h3 hp ha0 hap HSQ.out).mono ?_
      rintro e w' ⟨rfl, rfl⟩
      go_wp2_with fail
      refine (awake07 _ hT hT3).mono ?_
      rintro e w1 ⟨rfl, hb1⟩
      go_wp2_with fail
      refine (ref07_Pow p a H _ hp1 hp ha (by omega)).mono ?_
      rw [E1.out]
      rintro e w' ⟨rfl, rfl⟩
      go_wp2
      go_ret
      exact ⟨rfl, hb1⟩
  · have HM := Alg.hid hm
    clear hm
    go_enter Tryd.func9, Tryd.ntmps9
    go_wp2_with fail
    refine (may_no p a 0 _ HM.out hp).mono ?_
    rintro e w' ⟨rfl, rfl⟩
    go_wp2_with fail
    refine (awake07 _ hT hT3).mono ?_
    rintro e w1 ⟨rfl, hb1⟩
    go_wp2
    go_ret
    exact ⟨rfl, hb1⟩
set_option maxRecDepth 100000 in
set_option maxHeartbeats 1000000 in
theorem squares_walk (p a : Nat) (hp : p < 4294967296) (ha : a < 4294967296) (w : World) (hT : Tab w) (hT3 : Tab32 w) :
    Calls Tryd.prog 10 #[.int .u32 p, .int .u32 a] w fun e w' => e = .returned (.bool true) ∧ Below w.heap.size w w' := by
  by_cases hm : MayP p a 0
  · obtain ⟨hpr, hp2, hap, hbp⟩ := hm
    haveI hne : NeZero p := ⟨by have := hpr.1; omega⟩
    have hp1 : 1 < p := hpr.1
    have hp0 : 0 < p := by omega
    have MAY : Hid (MayP p a 0) := ⟨hpr, hp2, hap, hbp⟩
    obtain ⟨Y, hY⟩ : ∃ Y, Y = mulM p a a := ⟨_, rfl⟩
    have hYp : Y < p := by rw [hY]; exact mulM_lt _ _ _ hp0
    obtain ⟨N, hN⟩ : ∃ N, N = negM p a := ⟨_, rfl⟩
    have hNl : N ≤ p := by rw [hN]; exact negM_le p a
    have HY := Alg.hid hY
    have HN := Alg.hid hN
    have hYo : (Fp.of a : Fp p) * Fp.of a = Fp.of Y := by rw [hY, of_mulM]
    by_cases h02 : Y = 0 ∨ p = 2
    · have hmin : (Y : Int) = min (a : Int) (N : Int) := by
        rcases h02 with h | h
        · have ha0 : a = 0 := by
            rcases Nat.eq_zero_or_pos a with e | e
            · exact e
            · rw [h, Fp.of_zero] at hYo
              rcases Fp.mul_eq_zero hpr hYo with h1 | h1 <;> exact absurd h1 (of_ne (by omega) hap)
          omega
        · subst h
          have : a = 0 ∨ a = 1 := by omega
          rcases this with rfl | rfl
          · have e1 : Y = 0 := hY
            omega
          · have e1 : Y = 1 := hY
            have e2 : N = 1 := hN
            omega
      have hm2 : ((Y : Int) == min (a : Int) (N : Int)) = true := by rw [← hmin]; simp
      have H02 := Alg.hid h02
      clear hY hN h02 hYo hmin
      go_enter Tryd.func10, Tryd.ntmps10
      go_wp2_with fail
      refine (may_yes p a 0 _ MAY.out).mono ?_
      rintro e w' ⟨rfl, rfl⟩
      go_wp2_with fail
      refine (modp_Mul p a a _ hp0 hp ha ha).mono ?_
      rw [← HY.out]
      rintro e w' ⟨rfl, rfl⟩
      go_wp2_with fail
      refine (modp_Root0 p Y _ H02.out).mono ?_
      rintro e w' ⟨rfl, rfl⟩
      go_wp2_with fail
      refine (awake07 _ hT hT3).mono ?_
      rintro e w1 ⟨rfl, hb1⟩
      go_wp2_with fail
      refine (ref07_Neg p a _ hp0 hp (by omega)).mono ?_
      rw [← HN.out]
      rintro e w' ⟨rfl, rfl⟩
      go_wp2
      go_ret
      exact ⟨rfl, hb1⟩
    · have h3 : 2 < p := by have := hpr.1; omega
      have hY0 : Y ≠ 0 := fun e => h02 (Or.inl e)
      have ha0 : a ≠ 0 := fun e => by
        rw [e, Fp.of_zero, CR.zero_mul] at hYo
        exact absurd hYo.symm (of_ne hY0 hYp)
      have HSQ : Hid (powM p Y ((p - 1) / 2) = 1) := by
        refine (powM_eq_one hpr).2 ?_
        rw [← hYo, CR.mul_pw, ← CR.pw_add]
        have ho := odd_of hpr h3
        rw [show (p - 1) / 2 + (p - 1) / 2 = p - 1 by omega]
        exact Fp.fermat1 hpr (of_ne ha0 hap)
      have hr := (rootN_eq hpr hY0 hYp hap hYo).2.2
      obtain ⟨R, hR⟩ : ∃ R, R = rootN p Y := ⟨_, rfl⟩
      rw [← hR] at hr
      have hN2 : N = p - a := by rw [hN]; unfold negM; rw [if_neg ha0]
      have hm2 : ((R : Int) == min (a : Int) (N : Int)) = true := by
        have : (R : Int) = min (a : Int) (N : Int) := by omega
        rw [← this]; simp
      have HR := Alg.hid hR
      have HY0 := Alg.hid hY0
      clear hY hN h02 hYo hr hR hN2 hY0
      go_enter Tryd.func10, Tryd.ntmps10
      go_wp2_with fail
      refine (may_yes p a 0 _ MAY.out).mono ?_
      rintro e w' ⟨rfl, rfl⟩
      go_wp2_with fail
      refine (modp_Mul p a a _ hp0 hp ha ha).mono ?_
      rw [← HY.out]
      rintro e w' ⟨rfl, rfl⟩
      go_wp2_with fail
      refine (modp_Root p Y _ hpr h3 hp HY0.out hYp HSQ.out hT3).mono ?_
      rw [← HR.out]
      rintro e w' ⟨rfl, rfl⟩
      go_wp2_with fail
      refine (awake07 _ hT hT3).mono ?_
      rintro e w1 ⟨rfl, hb1⟩
      go_wp2_with fail
      refine (ref07_Neg p a _ hp0 hp (by omega)).mono ?_
      rw [← HN.out]
      rintro e w' ⟨rfl, rfl⟩
      go_wp2
      go_ret
      exact ⟨rfl, hb1⟩
  · have HM := Alg.hid hm
    clear hm
    go_enter Tryd.func10, Tryd.ntmps10
    go_wp2_with fail
    refine (may_no p a 0 _ HM.out hp).mono ?_
    rintro e w' ⟨rfl, rfl⟩
    go_wp2_with fail
    refine (awake07 _ hT hT3).mono ?_
    rintro e w1 ⟨rfl, hb1⟩
    go_wp2
    go_ret
    exact ⟨rfl, hb1⟩
end Go.Proofs.YtcdflpkbdabljaaDoor
