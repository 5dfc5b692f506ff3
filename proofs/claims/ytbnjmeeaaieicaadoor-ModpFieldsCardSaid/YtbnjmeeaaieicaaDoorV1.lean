/- Contracts of math/bits.TrailingZeros32, modp.other, modp.Root. Contract of modp.Root. Contract of the reference's Root. -/
import Derived.Test.YtbnjmeeaaieicaaDoorV2
import Derived.Test.YtbnjmeeaaieicaaDoorW60
import Derived.Test.YtbnjmeeaaieicaaDoorW42
import Derived.Lib.TrailingZeros
import Derived.Shelf.Spec.TrailingZeros
section
open Alg Go Go.RowKit
namespace Go.Proofs.YtbnjmeeaaieicaaDoor
open Go.RowKit
theorem tz32_core (x k idx : Nat) (w : World) (hx0 : ((x : Int) == 0) = false)
    (key : bits BinOp.and IntKind.u32 (x : Int) (-(x : Int) % 4294967296) * 125613361 % 4294967296 / 134217728 = (idx : Int))
    (hi : idx < 32) (hk : k < 32) (hcell : w.cell? ⟨0, idx, none⟩ = some (.int .u8 k)) :
    Calls Tryd.prog 78 #[.int .u32 x] w fun e w' => e = .returned (.int .i64 k) ∧ w' = w := by
  go_enter Tryd.func78, Tryd.ntmps78
  go_wp2_with (simp only [key])
  go_ret
  exact ⟨rfl, rfl⟩
def Tab32 (w : World) : Prop := TabAt 0 Lib.deBruijn32tab w
theorem Tab32.mono {w w' : World} (h : Tab32 w) (hb : Below w.heap.size w w') : Tab32 w' := fun j hj => (hb.cell (cell_lt (h j hj))).trans (h j hj)
theorem bits_TZ32 (x : Nat) (hx0 : x ≠ 0) (hx : x < 4294967296) (w : World) (hT : Tab32 w) :
    Calls Tryd.prog 78 #[.int .u32 x] w fun e w' => e = .returned (.int .i64 (Lib.ctz 32 x)) ∧ w' = w := by
  obtain ⟨hlow, hk⟩ := Lib.lowest_bit 32 x hx0 hx
  obtain ⟨hi, htab⟩ := Lib.deBruijn32_at _ hk
  have hcell := hT _ hi
  rw [htab] at hcell
  exact tz32_core x _ _ w (by simp; omega) (tz32_key x _ hx hx0 hlow) hi hk hcell
/-- the least number that is no square -/
def Other (p z : Nat) : Prop := 2 ≤ z ∧ z < p ∧ powM p z ((p - 1) / 2) ≠ 1
theorem modp_other (p : Nat) (w : World) (hpr : IsPr p) (h3 : 2 < p) (hp : p < 4294967296) :
    Calls Tryd.prog 79 #[.int .u32 p] w fun e w' => ∃ z, e = .returned (.int .u32 (z : Nat)) ∧ Other p z ∧ w' = w := by
  haveI hne : NeZero p := ⟨by omega⟩
  obtain ⟨H, hH⟩ : ∃ H, H = (p - 1) / 2 := ⟨_, rfl⟩
  have HZ : Hid (∃ z, 2 ≤ z ∧ z < p ∧ powM p z H ≠ 1) := by rw [hH]; exact nonres hpr h3
  have e1 : ((p : Int) - 1) / 2 = (H : Int) := by omega
  have hHp : H < p := by omega
  have HH := Alg.hid hH
  clear hpr hne hH
  go_enter Tryd.func79, Tryd.ntmps79
  go_wp2
  go_loop [3] (fun x => ∃ z : Nat, x = .int .u32 z ∧ 2 ≤ z ∧ z < p ∧ Hid (∃ y, z ≤ y ∧ y < p ∧ powM p y H ≠ 1)) (fun x => p - (intOf x).toNat)
  case atStart =>
    obtain ⟨y, h1, h2, h4⟩ := HZ.out
    exact ⟨2, rfl, Nat.le_refl _, h3, ⟨y, h1, h2, h4⟩⟩
  case round =>
    obtain ⟨z, rfl, hz2, hzp, hex⟩ := hrel
    by_cases h1 : powM p z H = 1
    · have HN : Hid (∃ y, z + 1 ≤ y ∧ y < p ∧ powM p y H ≠ 1) := by
        obtain ⟨y, g1, g2, g3⟩ := hex.out
        refine ⟨y, ?_, g2, g3⟩
        rcases Nat.lt_or_ge z y with h | h
        · exact h
        · have : y = z := by omega
          subst this
          exact absurd h1 g3
      have hzz : z + 1 < p := by obtain ⟨y, g1, g2, _⟩ := HN.out; omega
      have H1 := Alg.hid h1
      clear h1 hex
      go_wp2_with fail
      refine (modp_Pow p z H _ (by omega) hp (by omega) (by omega)).mono ?_
      rw [H1.out]
      rintro e w' ⟨rfl, rfl⟩
      go_wp2
      go_round
      case rel => exact ⟨z + 1, by go_num, by omega, hzz, HN⟩
      case measure => simp [intOf]; omega
    · have HO : Hid (Other p z) := ⟨hz2, hzp, by rw [← HH.out]; exact h1⟩
      obtain ⟨Y, hY⟩ : ∃ Y, Y = powM p z H := ⟨_, rfl⟩
      have h1' : ((Y : Int) == 1) = false := by simp; omega
      have HP : Y < p := by rw [hY]; exact powM_lt _ _ _ (by omega)
      have HY := Alg.hid hY
      clear h1 hex hY
      go_wp2_with fail
      refine (modp_Pow p z H _ (by omega) hp (by omega) (by omega)).mono ?_
      rw [← HY.out]
      rintro e w' ⟨rfl, rfl⟩
      go_wp2
      go_ret
      exact ⟨z, rfl, HO.out, rfl⟩
end Go.Proofs.YtbnjmeeaaieicaaDoor
end
section
open Alg Go Go.RowKit
namespace Alg
theorem ctz32_split {n : Nat} (h : 0 < n) (hn : n < 4294967296) : ∃ s d, Go.Lib.ctz 32 n = s ∧ s < 32 ∧ n = 2 ^ s * d ∧ d % 2 = 1 ∧ d = n / 2 ^ s := by
  obtain ⟨m, hm, hs⟩ := Go.Lib.ctzFrom_spec 32 n h (by omega)
  refine ⟨_, 2 * m + 1, rfl, ?_, ?_, by omega, ?_⟩
  · unfold Go.Lib.ctz; rw [if_neg (by omega)]; exact hs
  · unfold Go.Lib.ctz; rw [if_neg (by omega)]; exact hm
  · unfold Go.Lib.ctz; rw [if_neg (by omega)]
    exact (Nat.div_eq_of_eq_mul_right (Nat.pow_pos (by omega)) hm).symm
theorem split_pos {p s d : Nat} (hp : p % 2 = 1) (e : p - 1 = 2 ^ s * d) (h1 : 1 < p) (hd : d % 2 = 1) : 1 ≤ s := by
  rcases Nat.eq_zero_or_pos s with h | h
  · subst h; rw [Nat.pow_zero, Nat.one_mul] at e; omega
  · exact h
theorem other_neg {p z : Nat} [NeZero p] (hp : IsPr p) (h3 : 2 < p) (h : 2 ≤ z ∧ z < p ∧ powM p z ((p - 1) / 2) ≠ 1) : CR.pw (Fp.of z : Fp p) ((p - 1) / 2) = -1 := by
  rcases half_pm hp h3 (a := z) (by have := h.1; omega) h.2.1 with h1 | h1
  · exact absurd ((powM_eq_one hp).2 h1) h.2.2
  · exact h1
/-- the first squaring of T that is 1 -/
def First (p : Nat) [NeZero p] (T Y j : Nat) : Prop := (Fp.of Y : Fp p) = CR.pw (Fp.of T) (2 ^ j) ∧ ∀ i, i < j → CR.pw (Fp.of T : Fp p) (2 ^ i) ≠ 1
def PowIs (p : Nat) [NeZero p] (C B k : Nat) : Prop := (Fp.of B : Fp p) = CR.pw (Fp.of C) (2 ^ k)
section
variable {p : Nat} [NeZero p]
theorem First.start (T : Nat) : First p T T 0 := ⟨by rw [Nat.pow_zero, CR.pw_one], fun _ h => absurd h (Nat.not_lt_zero _)⟩
theorem of_one_ne (hp : IsPr p) {Y : Nat} (hY : Y < p) (h : Y ≠ 1) : (Fp.of Y : Fp p) ≠ 1 := fun e => h (Fp.of_inj hY hp.1 (e.trans Fp.of_one.symm))
theorem First.next (hp : IsPr p) {T Y j : Nat} (h : First p T Y j) (hY : Y < p) (h1 : Y ≠ 1) : First p T (mulM p Y Y) (j + 1) := by
  refine ⟨?_, fun i hi => ?_⟩
  · rw [of_mulM, h.1, ← CR.pw_add, Nat.pow_succ, Nat.mul_two]
  · by_cases e : i = j
    · subst e; rw [← h.1]; exact of_one_ne hp hY h1
    · exact h.2 i (by omega)
theorem First.lt (hp : IsPr p) {a S X T C Y j : Nat} (hts : TS p a S X T C) (h : First p T Y j) (hY : Y < p) (h1 : Y ≠ 1) (hj : j < S) : j + 1 < S := by
  rcases Nat.lt_or_ge (j + 1) S with h2 | h2
  · exact h2
  · have e : j = S - 1 := by omega
    have := hts.t
    rw [← e, ← h.1] at this
    exact absurd this (of_one_ne hp hY h1)
theorem PowIs.start (C : Nat) : PowIs p C C 0 := by unfold PowIs; rw [Nat.pow_zero, CR.pw_one]
theorem PowIs.next {C B k : Nat} (h : PowIs p C B k) : PowIs p C (mulM p B B) (k + 1) := by
  unfold PowIs at *
  rw [of_mulM, h, ← CR.pw_add, Nat.pow_succ, Nat.mul_two]
theorem First.pos {T j : Nat} (h : First p T 1 j) (hT : T < p) (hp : IsPr p) (h1 : T ≠ 1) : 1 ≤ j := by
  rcases Nat.eq_zero_or_pos j with e | e
  · subst e
    have := h.1
    rw [Nat.pow_zero, CR.pw_one] at this
    exact absurd (Fp.of_inj hp.1 hT this).symm h1
  · exact e
theorem TS.turn (hp : IsPr p) {a S X T C j B N : Nat} (hts : TS p a S X T C) (hf : First p T 1 j) (hj : j < S) (h1 : T ≠ 1) (hN : N = S - j - 1) (hB : PowIs p C B N) :
    TS p a j (mulM p X B) (mulM p T (mulM p B B)) (mulM p B B) := by
  have hj1 := hf.pos hts.hT hp h1
  refine hts.step hp hj1 hj ?_ (hf.2 (j - 1) (by omega)) (by rw [← hN]; exact hB)
  rw [← hf.1, Fp.of_one]
end
end Alg
namespace Go.Proofs.YtbnjmeeaaieicaaDoor
open Go.RowKit
theorem ret_two {k : IntKind} {a b : Int} {v : Value} (h : a = b) : Ending.returned (.tuple #[.int k a, v]) = .returned (.tuple #[.int k b, v]) := by rw [h]
theorem modp_Root0 (p a : Nat) (w : World) (h : a = 0 ∨ p = 2) :
    Calls Tryd.prog 36 #[.int .u32 p, .int .u32 a] w fun e w' => e = .returned (.tuple #[.int .u32 (a : Nat), .int .i64 0]) ∧ w' = w := by
  by_cases h0 : a = 0
  · subst h0
    clear h
    go_enter Tryd.func36, Tryd.ntmps36
    go_wp2
    go_ret2
    exact ⟨rfl, rfl⟩
  · obtain rfl : p = 2 := by omega
    have g0 : ((a : Int) == 0) = false := by simp; omega
    clear h h0
    go_enter Tryd.func36, Tryd.ntmps36
    go_wp2
    go_ret2
    exact ⟨rfl, rfl⟩
theorem modp_RootN (p a : Nat) (w : World) (h3 : 2 < p) (hp : p < 4294967296) (ha0 : a ≠ 0) (ha : a < p) (hsq : powM p a ((p - 1) / 2) ≠ 1) :
    Calls Tryd.prog 36 #[.int .u32 p, .int .u32 a] w fun e w' => e = .returned (.tuple #[.int .u32 0, .int .i64 5]) ∧ w' = w := by
  obtain ⟨H, hH⟩ : ∃ H, H = (p - 1) / 2 := ⟨_, rfl⟩
  obtain ⟨q, hq⟩ : ∃ q, q = p - 1 := ⟨_, rfl⟩
  have e2 : (p : Int) - 1 = (q : Int) := by omega
  have e1 : (q : Int) / 2 = (H : Int) := by omega
  obtain ⟨Y, hY⟩ : ∃ Y, Y = powM p a H := ⟨_, rfl⟩
  have y1 : ((Y : Int) == 1) = false := by
    rw [← hH, ← hY] at hsq; simp; omega
  have HP : Y < p := by rw [hY]; exact powM_lt _ _ _ (by omega)
  have HY := Alg.hid hY
  have g0 : ((a : Int) == 0) = false := by simp; omega
  have g1 : ((p : Int) == 2) = false := by simp; omega
  have hHp : H < p := by omega
  have hp0 : 0 < p := by omega
  clear hsq hH hq hY
  go_enter Tryd.func36, Tryd.ntmps36
  go_wp2_with fail
  refine (modp_Pow p a H _ hp0 hp (by omega) (by omega)).mono ?_
  rw [← HY.out]
  rintro e w' ⟨rfl, rfl⟩
  go_wp2
  go_ret2
  exact ⟨rfl, rfl⟩
set_option maxRecDepth 100000 in
set_option maxHeartbeats 1000000 in
theorem modp_Root (p a : Nat) (w : World) (hpr : IsPr p) (h3 : 2 < p) (hp : p < 4294967296) (ha0 : a ≠ 0) (ha : a < p) (hsq : powM p a ((p - 1) / 2) = 1) (hT : Tab32 w) :
    Calls Tryd.prog 36 #[.int .u32 p, .int .u32 a] w fun e w' => e = .returned (.tuple #[.int .u32 (rootN p a : Nat), .int .i64 0]) ∧ w' = w := by
  haveI hne : NeZero p := ⟨by omega⟩
  obtain ⟨H, hH⟩ : ∃ H, H = (p - 1) / 2 := ⟨_, rfl⟩
  obtain ⟨q, hq⟩ : ∃ q, q = p - 1 := ⟨_, rfl⟩
  obtain ⟨s, d, hctz, hs32, hsp, hod, hd⟩ := ctz32_split (n := q) (by omega) (by omega)
  have hs1 := split_pos (odd_of hpr h3) (by rw [← hq]; exact hsp) (by omega) hod
  have hdq : d ≤ q := by rw [hd]; exact Nat.div_le_self _ _
  obtain ⟨D, hD⟩ : ∃ D, D = (d + 1) / 2 := ⟨_, rfl⟩
  have e2 : (p : Int) - 1 = (q : Int) := by omega
  have e1 : (q : Int) / 2 = (H : Int) := by omega
  have e3 : (q : Int) / 2 ^ s = (d : Int) := by rw [hd]; simp
  have e4 : ((d : Int) + 1) / 2 = (D : Int) := by omega
  have START : Hid (∀ z, Other p z → TS p a s (powM p a D) (powM p a d) (powM p z d)) := fun z hz => by
    rw [hD]
    exact TS.start hpr hs1 (by rw [← hq]; exact hsp) hod ((powM_eq_one hpr).1 hsq) (other_neg hpr h3 hz)
  have H1 : Hid (powM p a H = 1) := by rw [hH]; exact hsq
  have HCTZ := Alg.hid hctz
  have g0 : ((a : Int) == 0) = false := by simp; omega
  have g1 : ((p : Int) == 2) = false := by simp; omega
  have hHp : H < p := by omega
  have hDp : D ≤ p := by omega
  have hqp : q < p := by omega
  have hq0 : q ≠ 0 := by omega
  have hp0 : 0 < p := by omega
  have ROOT : Hid (∀ X, X < p → (Fp.of X : Fp p) * Fp.of X = Fp.of a → 0 < X ∧ min X (p - X) = rootN p a) := fun X hX h => ⟨(rootN_eq hpr ha0 ha hX h).1, (rootN_eq hpr ha0 ha hX h).2.2⟩
  clear hsq hH hq hctz hsp hod hd hD hs1
  go_enter Tryd.func36, Tryd.ntmps36
  go_wp2_with fail
  refine (modp_Pow p a H _ hp0 hp (by omega) (by omega)).mono ?_
  rw [H1.out]
  rintro e w' ⟨rfl, rfl⟩
  go_wp2_with fail
  refine (bits_TZ32 q hq0 (by omega) _ hT).mono ?_
  rw [HCTZ.out]
  rintro e w' ⟨rfl, rfl⟩
  go_wp2_with fail
  refine (modp_other p _ hpr h3 hp).mono ?_
  rintro e w' ⟨z, rfl, hz, rfl⟩
  have HTS := Alg.hid (START.out z hz)
  have hz1 := hz.2.1
  clear hz
  go_wp2_with fail
  refine (modp_Pow p z d _ hp0 hp (by omega) (by omega)).mono ?_
  rintro e w' ⟨rfl, rfl⟩
  go_wp2_with fail
  refine (modp_Pow p a D _ hp0 hp (by omega) (by omega)).mono ?_
  rintro e w' ⟨rfl, rfl⟩
  go_wp2_with fail
  refine (modp_Pow p a d _ hp0 hp (by omega) (by omega)).mono ?_
  rintro e w' ⟨rfl, rfl⟩
  go_wp2_with fail
  clear START H1 HCTZ
  go_loop [6, 8, 9, 10] (fun s c x t => ∃ S X T C : Nat, s = .int .i64 S ∧ c = .int .u32 C ∧ x = .int .u32 X ∧ t = .int .u32 T ∧ S < 32 ∧ X < p ∧ T < p ∧ C < p ∧ Hid (TS p a S X T C)) (fun s _ _ _ => (intOf s).toNat)
  case atStart => exact ⟨s, powM p a D, powM p a d, powM p z d, rfl, rfl, rfl, rfl, hs32, powM_lt _ _ _ hp0, powM_lt _ _ _ hp0, powM_lt _ _ _ hp0, HTS.out⟩
  case round =>
    clear HTS e1 e2 e3 e4 hs32
    obtain ⟨S, X, T, C, rfl, rfl, rfl, rfl, hS, hX, hTp, hC, hts⟩ := hrel
    by_cases t1 : T = 1
    · subst t1
      obtain ⟨x0, hmin⟩ := ROOT.out X hX hts.out.done
      have HMIN := Alg.hid hmin
      have hng : negM p X = p - X := by unfold negM; rw [if_neg (by omega)]
      have HNG := Alg.hid hng
      clear hmin hng hts
      go_wp2_with fail
      refine (modp_Neg p X _ hp (by omega)).mono ?_
      rw [HNG.out]
      rintro e w' ⟨rfl, rfl⟩
      go_wp2
      go_ret2
      exact ⟨ret_two (by rw [← HMIN.out]; omega), rfl⟩
    · have t1' : ((T : Int) == 1) = false := by simp; omega
      have hS1 := hts.out.s1
      have HT1 := Alg.hid t1
      clear t1
      go_wp2
      go_loop [11, 12] (fun i y => ∃ j Y : Nat, i = .int .i64 j ∧ y = .int .u32 Y ∧ j < S ∧ Y < p ∧ Hid (First p T Y j)) (fun i _ => S - (intOf i).toNat)
      case atStart => exact ⟨0, T, rfl, rfl, hS1, hTp, First.start T⟩
      case round =>
        obtain ⟨j, Y, rfl, rfl, hj, hY, hfi⟩ := hrel
        by_cases y1 : Y = 1
        · subst y1
          obtain ⟨N, hN⟩ : ∃ N, N = S - j - 1 := ⟨_, rfl⟩
          have e5 : (S : Int) - (j : Int) - 1 = (N : Int) := by omega
          have TURN : Hid (∀ B, PowIs p C B N → TS p a j (mulM p X B) (mulM p T (mulM p B B)) (mulM p B B)) := fun B hB => hts.out.turn hpr hfi.out hj HT1.out hN hB
          have HN := Alg.hid hN
          clear hN hfi hts
          go_wp2
          go_loop [13, 68] (fun b k => ∃ K B : Nat, k = .int .i64 K ∧ b = .int .u32 B ∧ K ≤ N ∧ B < p ∧ Hid (PowIs p C B K)) (fun _ k => N - (intOf k).toNat)
          case atStart => exact ⟨0, C, rfl, rfl, Nat.zero_le _, hC, PowIs.start C⟩
          case round =>
            obtain ⟨K, B, rfl, rfl, hK, hB, hpi⟩ := hrel
            by_cases k1 : K < N
            · go_wp2_with fail
              refine (modp_Mul p B B _ hp0 hp (by omega) (by omega)).mono ?_
              rintro e w' ⟨rfl, rfl⟩
              go_wp2
              go_round
              case rel => exact ⟨K + 1, mulM p B B, by go_num, rfl, by omega, mulM_lt _ _ _ hp0, hpi.out.next⟩
              case measure => simp [intOf]; omega
            · have HTN := Alg.hid (TURN.out B (by have e : N = K := by omega
                                                  rw [e]; exact hpi.out))
              have hB2 := mulM_lt p B B hp0
              go_wp2_with fail
              refine (modp_Mul p B B _ hp0 hp (by omega) (by omega)).mono ?_
              rintro e w' ⟨rfl, rfl⟩
              go_wp2_with fail
              refine (modp_Mul p X B _ hp0 hp (by omega) (by omega)).mono ?_
              rintro e w' ⟨rfl, rfl⟩
              go_wp2_with fail
              refine (modp_Mul p T (mulM p B B) _ hp0 hp (by omega) (by omega)).mono ?_
              rintro e w' ⟨rfl, rfl⟩
              go_wp2
              go_round
              case rel => exact ⟨j, mulM p X B, mulM p T (mulM p B B), mulM p B B, rfl, rfl, rfl, rfl, by omega, mulM_lt _ _ _ hp0, mulM_lt _ _ _ hp0, mulM_lt _ _ _ hp0, HTN.out⟩
              case measure => simp [intOf]; omega
        · have y1' : ((Y : Int) == 1) = false := by simp; omega
          have hj1 := First.lt hpr hts.out hfi.out hY y1 hj
          have HF := Alg.hid (hfi.out.next hpr hY y1)
          clear y1 hfi
          go_wp2_with fail
          refine (modp_Mul p Y Y _ hp0 hp (by omega) (by omega)).mono ?_
          rintro e w' ⟨rfl, rfl⟩
          go_wp2
          go_round
          case rel => exact ⟨j + 1, mulM p Y Y, by go_num, rfl, hj1, mulM_lt _ _ _ hp0, HF.out⟩
          case measure => simp [intOf]; omega
end Go.Proofs.YtbnjmeeaaieicaaDoor
end
section
open Alg Go Go.RowKit
namespace Alg
/-- S is T, squared so often -/
def SqIs (p : Nat) [NeZero p] (T S k : Nat) : Prop := (Fp.of S : Fp p) = CR.pw (Fp.of T) (2 ^ k)
theorem SqIs.start {p : Nat} [NeZero p] (T : Nat) : SqIs p T T 0 := by unfold SqIs; rw [Nat.pow_zero, CR.pw_one]
theorem SqIs.next {p : Nat} [NeZero p] {T S k : Nat} (h : SqIs p T S k) : SqIs p T (mulM p S S) (k + 1) := by
  unfold SqIs at *
  rw [of_mulM, h, ← CR.pw_add, Nat.pow_succ, Nat.mul_two]
theorem SqIs.one {p : Nat} [NeZero p] (hp : IsPr p) {T S k : Nat} (h : SqIs p T S k) (hS : S < p) : S = 1 ↔ CR.pw (Fp.of T : Fp p) (2 ^ k) = 1 := by
  unfold SqIs at h
  rw [← h]
  constructor
  · intro e; rw [e, Fp.of_one]
  · intro e; exact Classical.byContradiction fun hn => of_one_ne hp hS hn e
end Alg
namespace Go.Proofs.YtbnjmeeaaieicaaDoor
open Go.RowKit
theorem ref07_Root0 (p a : Nat) (w : World) (h : a = 0 ∨ p = 2) :
    Calls Tryd.prog 37 #[.int .u32 p, .int .u32 a] w fun e w' => e = .returned (.tuple #[.int .u32 (a : Nat), .int .i64 0]) ∧ w' = w := by
  by_cases h0 : a = 0
  · subst h0
    clear h
    go_enter Tryd.func37, Tryd.ntmps37
    go_wp2
    go_ret2
    exact ⟨rfl, rfl⟩
  · obtain rfl : p = 2 := by omega
    have g0 : ((a : Int) == 0) = false := by simp; omega
    clear h h0
    go_enter Tryd.func37, Tryd.ntmps37
    go_wp2
    go_ret2
    exact ⟨rfl, rfl⟩
theorem ref07_RootN (p a : Nat) (w : World) (h3 : 2 < p) (hp : p < 4294967296) (ha0 : a ≠ 0) (ha : a < p) (hsq : powM p a ((p - 1) / 2) ≠ 1) :
    Calls Tryd.prog 37 #[.int .u32 p, .int .u32 a] w fun e w' => e = .returned (.tuple #[.int .u32 0, .int .i64 5]) ∧ w' = w := by
  obtain ⟨H, hH⟩ : ∃ H, H = (p - 1) / 2 := ⟨_, rfl⟩
  obtain ⟨q, hq⟩ : ∃ q, q = p - 1 := ⟨_, rfl⟩
  have e2 : (p : Int) - 1 = (q : Int) := by omega
  have e1 : (q : Int) / 2 = (H : Int) := by omega
  obtain ⟨Y, hY⟩ : ∃ Y, Y = powM p a H := ⟨_, rfl⟩
  have y1 : ((Y : Int) == 1) = false := by
    rw [← hH, ← hY] at hsq; simp; omega
  have HP : Y < p := by rw [hY]; exact powM_lt _ _ _ (by omega)
  have HY := Alg.hid hY
  have g0 : ((a : Int) == 0) = false := by simp; omega
  have g1 : ((p : Int) == 2) = false := by simp; omega
  have hHp : H < p := by omega
  have hp1 : 1 < p := by omega
  clear hsq hH hq hY
  go_enter Tryd.func37, Tryd.ntmps37
  go_wp2_with fail
  refine (ref07_Pow p a H _ hp1 hp (by omega) (by omega)).mono ?_
  rw [← HY.out]
  rintro e w' ⟨rfl, rfl⟩
  go_wp2
  go_ret2
  exact ⟨rfl, rfl⟩
set_option maxRecDepth 100000 in
set_option maxHeartbeats 1000000 in
theorem ref07_Root (p a : Nat) (w : World) (hpr : IsPr p) (h3 : 2 < p) (hp : p < 4294967296) (ha0 : a ≠ 0) (ha : a < p) (hsq : powM p a ((p - 1) / 2) = 1) :
    Calls Tryd.prog 37 #[.int .u32 p, .int .u32 a] w fun e w' => e = .returned (.tuple #[.int .u32 (rootN p a : Nat), .int .i64 0]) ∧ w' = w := by
  haveI hne : NeZero p := ⟨by omega⟩
  obtain ⟨H, hH⟩ : ∃ H, H = (p - 1) / 2 := ⟨_, rfl⟩
  obtain ⟨q, hq⟩ : ∃ q, q = p - 1 := ⟨_, rfl⟩
  have e2 : (p : Int) - 1 = (q : Int) := by omega
  have e1 : (q : Int) / 2 = (H : Int) := by omega
  have HZ : Hid (∃ z, 2 ≤ z ∧ z < p ∧ powM p z H ≠ 1) := by rw [hH]; exact nonres hpr h3
  have START : Hid (∀ s d D z, q = 2 ^ s * d → d % 2 = 1 → D = (d + 1) / 2 → 2 ≤ z → z < p → powM p z H ≠ 1 → 1 ≤ s ∧ TS p a s (powM p a D) (powM p a d) (powM p z d)) := fun s d D z h1 h2 h4 h5 h6 h7 => by
    have hs1 := split_pos (odd_of hpr h3) (by rw [← hq]; exact h1) (by omega) h2
    rw [h4]
    exact ⟨hs1, TS.start hpr hs1 (by rw [← hq]; exact h1) h2 ((powM_eq_one hpr).1 hsq) (other_neg hpr h3 ⟨h5, h6, by rw [← hH]; exact h7⟩)⟩
  have H1 : Hid (powM p a H = 1) := by rw [hH]; exact hsq
  have g0 : ((a : Int) == 0) = false := by simp; omega
  have g1 : ((p : Int) == 2) = false := by simp; omega
  have hHp : H < p := by omega
  have hqp : q < p := by omega
  have hq0 : 0 < q := by omega
  have hp0 : 0 < p := by omega
  have hp1 : 1 < p := by omega
  have ROOT : Hid (∀ X, X < p → (Fp.of X : Fp p) * Fp.of X = Fp.of a → 0 < X ∧ min X (p - X) = rootN p a) := fun X hX h => ⟨(rootN_eq hpr ha0 ha hX h).1, (rootN_eq hpr ha0 ha hX h).2.2⟩
  clear hsq hH hq
  go_enter Tryd.func37, Tryd.ntmps37
  go_wp2_with fail
  refine (ref07_Pow p a H _ hp1 hp (by omega) (by omega)).mono ?_
  rw [H1.out]
  rintro e w' ⟨rfl, rfl⟩
  go_wp2
  go_loop [7] (fun x => ∃ z : Nat, x = .int .u32 z ∧ 2 ≤ z ∧ z < p ∧ Hid (∃ y, z ≤ y ∧ y < p ∧ powM p y H ≠ 1)) (fun x => p - (intOf x).toNat)
  case atStart =>
    obtain ⟨y, h1, h2, h4⟩ := HZ.out
    exact ⟨2, rfl, Nat.le_refl _, h3, ⟨y, h1, h2, h4⟩⟩
  case round =>
    obtain ⟨z, rfl, hz2, hzp, hex⟩ := hrel
    by_cases h1 : powM p z H = 1
    · have HN : Hid (∃ y, z + 1 ≤ y ∧ y < p ∧ powM p y H ≠ 1) := by
        obtain ⟨y, g1, g2, g3⟩ := hex.out
        refine ⟨y, ?_, g2, g3⟩
        rcases Nat.lt_or_ge z y with h | h
        · exact h
        · have : y = z := by omega
          subst this
          exact absurd h1 g3
      have hzz : z + 1 < p := by obtain ⟨y, g1, g2, _⟩ := HN.out; omega
      have HH1 := Alg.hid h1
      clear h1 hex
      go_wp2_with fail
      refine (ref07_Pow p z H _ hp1 hp (by omega) (by omega)).mono ?_
      rw [HH1.out]
      rintro e w' ⟨rfl, rfl⟩
      go_wp2
      go_round
      case rel => exact ⟨z + 1, by go_num, by omega, hzz, HN⟩
      case measure => simp [intOf]; omega
    · obtain ⟨Y, hY⟩ : ∃ Y, Y = powM p z H := ⟨_, rfl⟩
      have h1' : ((Y : Int) == 1) = false := by simp; omega
      have HP : Y < p := by rw [hY]; exact powM_lt _ _ _ (by omega)
      have HY := Alg.hid hY
      have HZ1 := Alg.hid h1
      clear h1 hex hY HZ
      go_wp2_with fail
      refine (ref07_Pow p z H _ hp1 hp (by omega) (by omega)).mono ?_
      rw [← HY.out]
      rintro e w' ⟨rfl, rfl⟩
      go_wp2
      clear h1' HP HY
      go_loop [8, 9] (fun o t => ∃ O S : Nat, o = .int .u64 O ∧ t = .int .i64 S ∧ 0 < O ∧ O ≤ q ∧ S + O ≤ q + 1 ∧ Hid (q = 2 ^ S * O)) (fun o _ => (intOf o).toNat)
      case atStart => exact ⟨q, 0, rfl, rfl, hq0, Nat.le_refl _, by omega, by show _ = _; rw [Nat.pow_zero, Nat.one_mul]⟩
      case round =>
        obtain ⟨d, s, rfl, rfl, hd0, hdq, hsd, hsp⟩ := hrel
        by_cases hev : d % 2 = 0
        · have hev' : (d : Int) % 2 = 0 := by omega
          have HSP : Hid (q = 2 ^ (s + 1) * (d / 2)) := by
            show _ = _
            rw [Nat.pow_succ, Nat.mul_assoc, show 2 * (d / 2) = d by omega]; exact hsp.out
          clear hsp
          go_wp2
          go_round
          case rel => exact ⟨d / 2, s + 1, by go_num, by go_num, by omega, by omega, by omega, HSP⟩
          case measure => simp [intOf]; omega
        · have hev' : ((d : Int) % 2 == 0) = false := by
            have : (d : Int) % 2 = 1 := by omega
            rw [this]; rfl
          obtain ⟨D, hD⟩ : ∃ D, D = (d + 1) / 2 := ⟨_, rfl⟩
          have e4 : ((d : Int) + 1) / 2 = (D : Int) := by omega
          obtain ⟨hs1, hts0⟩ := START.out s d D z hsp.out (by omega) hD hz2 hzp HZ1.out
          have HTS := Alg.hid hts0
          have hDp : D ≤ p := by omega
          obtain ⟨r, hr⟩ : ∃ r, r = s - 1 := ⟨_, rfl⟩
          have e5 : (s : Int) - 1 = (r : Int) := by omega
          have HR : Hid (s = r + 1) := by show _ = _; omega
          have hrp : r < p := by omega
          clear hsp hts0 hev hD hr START
          go_wp2_with fail
          refine (ref07_Pow p a D _ hp1 hp (by omega) (by omega)).mono ?_
          rintro e w' ⟨rfl, rfl⟩
          go_wp2_with fail
          refine (ref07_Pow p a d _ hp1 hp (by omega) (by omega)).mono ?_
          rintro e w' ⟨rfl, rfl⟩
          go_wp2_with fail
          refine (ref07_Pow p z d _ hp1 hp (by omega) (by omega)).mono ?_
          rintro e w' ⟨rfl, rfl⟩
          go_wp2
          clear e1 e2 e4 e5 hev'
          go_loop [10, 11, 12, 13] (fun x t c k => ∃ X T C K : Nat, x = .int .u32 X ∧ t = .int .u32 T ∧ c = .int .u32 C ∧ k = .int .i64 K ∧ X < p ∧ T < p ∧ C < p ∧ K ≤ r ∧ Hid (TS p a (K + 1) X T C)) (fun _ _ _ k => (intOf k).toNat)
          case atStart => exact ⟨powM p a D, powM p a d, powM p z d, r, rfl, rfl, rfl, rfl, powM_lt _ _ _ hp0, powM_lt _ _ _ hp0, powM_lt _ _ _ hp0, Nat.le_refl _, by have := HTS.out; rw [HR.out] at this; exact this⟩
          case round =>
            clear HTS
            obtain ⟨X, T, C, K, rfl, rfl, rfl, rfl, hX, hT, hC, hK, hts⟩ := hrel
            have hKp : K < p := by omega
            by_cases k1 : K = 0
            · subst k1
              have t1 := hts.out.end1 hpr
              subst t1
              obtain ⟨x0, hmin⟩ := ROOT.out X hX hts.out.done
              have HMIN := Alg.hid hmin
              clear hmin hts
              go_wp2
              go_ret2
              exact ⟨ret_two (by rw [← HMIN.out]; omega), rfl⟩
            · have kk : (1 : Int) ≤ (K : Int) := by omega
              go_wp2
              go_loop [14, 15] (fun s i => ∃ S I : Nat, s = .int .u32 S ∧ i = .int .i64 I ∧ 1 ≤ I ∧ I ≤ K ∧ S < p ∧ Hid (SqIs p T S (I - 1))) (fun _ i => K - (intOf i).toNat)
              case atStart => exact ⟨T, 1, rfl, rfl, Nat.le_refl _, by omega, hT, SqIs.start T⟩
              case round =>
                obtain ⟨S, I, rfl, rfl, hI, hIK, hS, hsq⟩ := hrel
                by_cases i1 : I < K
                · have HSN : Hid (SqIs p T (mulM p S S) (I + 1 - 1)) := by
                    have := hsq.out.next
                    rw [show I - 1 + 1 = I + 1 - 1 by omega] at this
                    exact this
                  clear hsq
                  go_wp2_with fail
                  refine (ref07_Mul p S S _ hp0 hp (by omega) (by omega)).mono ?_
                  rintro e w' ⟨rfl, rfl⟩
                  go_wp2
                  go_round
                  case rel => exact ⟨mulM p S S, I + 1, rfl, by go_num, by omega, by omega, mulM_lt _ _ _ hp0, HSN⟩
                  case measure => simp [intOf]; omega
                · obtain rfl : I = K := by omega
                  have hC2 := mulM_lt p C C hp0
                  obtain ⟨k', hk'⟩ : ∃ k', k' = I - 1 := ⟨_, rfl⟩
                  have e6 : (I : Int) - 1 = (k' : Int) := by omega
                  have HK' : Hid (k' + 1 = I) := by show _ = _; omega
                  have hkp : k' < p := by omega
                  by_cases s1 : S = 1
                  · have HT1 : Hid (TS p a (k' + 1) X T (mulM p C C)) := by
                      rw [HK'.out]
                      exact hts.out.down1 hpr hI ((hsq.out.one hpr hS).1 s1)
                    subst s1
                    clear hts hsq hk'
                    go_wp2_with fail
                    refine (ref07_Mul p C C _ hp0 hp (by omega) (by omega)).mono ?_
                    rintro e w' ⟨rfl, rfl⟩
                    go_wp2
                    go_round
                    case rel => exact ⟨X, T, mulM p C C, k', rfl, rfl, rfl, rfl, hX, hT, hC2, by have := HK'.out; omega, HT1⟩
                    case measure => have := HK'.out; simp [intOf]; omega
                  · have HT1 : Hid (TS p a (k' + 1) (mulM p X C) (mulM p T (mulM p C C)) (mulM p C C)) := by
                      rw [HK'.out]
                      exact hts.out.down2 hpr hI (fun e => s1 ((hsq.out.one hpr hS).2 e))
                    have s1' : ((S : Int) == 1) = false := by simp; omega
                    clear hts hsq hk' s1
                    go_wp2_with fail
                    refine (ref07_Mul p X C _ hp0 hp (by omega) (by omega)).mono ?_
                    rintro e w' ⟨rfl, rfl⟩
                    go_wp2_with fail
                    refine (ref07_Mul p C C _ hp0 hp (by omega) (by omega)).mono ?_
                    rintro e w' ⟨rfl, rfl⟩
                    go_wp2_with fail
                    refine (ref07_Mul p T (mulM p C C) _ hp0 hp (by omega) (by omega)).mono ?_
                    rintro e w' ⟨rfl, rfl⟩
                    go_wp2_with fail
                    refine (ref07_Mul p C C _ hp0 hp (by omega) (by omega)).mono ?_
                    rintro e w' ⟨rfl, rfl⟩
                    go_wp2
                    go_round
                    case rel => exact ⟨mulM p X C, mulM p T (mulM p C C), mulM p C C, k', rfl, rfl, rfl, rfl, mulM_lt _ _ _ hp0, mulM_lt _ _ _ hp0, hC2, by have := HK'.out; omega, HT1⟩
                    case measure => have := HK'.out; simp [intOf]; omega
end Go.Proofs.YtbnjmeeaaieicaaDoor
end
