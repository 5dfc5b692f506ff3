/- Contracts of prime.Is (below 2^31) and modp.Field (at each number). -/
import Derived.Test.YtcdflpkbdabljaaDoorA14
import Derived.Test.YtcdflpkbdabljaaDoorW41
import Derived.Test.YtcdflpkbdabljaaDoorE1
import Derived.WalkMore
import Derived.Scope
import Derived.Deep.LoopGhost
open Alg Go Go.RowKit
namespace Alg
open Classical in
/-- is it a prime? -/
noncomputable def isB (n : Nat) : Bool := decide (IsPr n)
theorem isB_yes {n : Nat} (h : IsPr n) : isB n = true := by simp [isB, h]
theorem isB_no {n : Nat} (h : ¬ IsPr n) : isB n = false := by simp [isB, h]
theorem int_eq_yes {a b : Int} (h : a = b) : (a == b) = true := by simp [h]
theorem int_eq_no {a b : Int} (h : a ≠ b) : (a == b) = false := by simp [h]
end Alg
namespace Go.Proofs.YtcdflpkbdabljaaDoor
open Go.RowKit
theorem bases_at (k : Nat) (hk : k < 12) : ∀ w, (Instr.index 90 (.agg #[.int .u64 2, .int .u64 3, .int .u64 5, .int .u64 7, .int .u64 11, .int .u64 13, .int .u64 17, .int .u64 19, .int .u64 23, .int .u64 29, .int .u64 31, .int .u64 37]) (.int .i64 (k : Int))).run Tryd.prog w = .ok (.int .u64 (bs k : Nat)) w := by
  intro w
  have i0 : (Instr.index 90 (.agg #[.int .u64 2, .int .u64 3, .int .u64 5, .int .u64 7, .int .u64 11, .int .u64 13, .int .u64 17, .int .u64 19, .int .u64 23, .int .u64 29, .int .u64 31, .int .u64 37]) (.int .i64 ((0 : Nat) : Int))).run Tryd.prog w = .ok (.int .u64 (bs 0 : Nat)) w := by kernel_rfl
  have i1 : (Instr.index 90 (.agg #[.int .u64 2, .int .u64 3, .int .u64 5, .int .u64 7, .int .u64 11, .int .u64 13, .int .u64 17, .int .u64 19, .int .u64 23, .int .u64 29, .int .u64 31, .int .u64 37]) (.int .i64 ((1 : Nat) : Int))).run Tryd.prog w = .ok (.int .u64 (bs 1 : Nat)) w := by kernel_rfl
  have i2 : (Instr.index 90 (.agg #[.int .u64 2, .int .u64 3, .int .u64 5, .int .u64 7, .int .u64 11, .int .u64 13, .int .u64 17, .int .u64 19, .int .u64 23, .int .u64 29, .int .u64 31, .int .u64 37]) (.int .i64 ((2 : Nat) : Int))).run Tryd.prog w = .ok (.int .u64 (bs 2 : Nat)) w := by kernel_rfl
  have i3 : (Instr.index 90 (.agg #[.int .u64 2, .int .u64 3, .int .u64 5, .int .u64 7, .int .u64 11, .int .u64 13, .int .u64 17, .int .u64 19, .int .u64 23, .int .u64 29, .int .u64 31, .int .u64 37]) (.int .i64 ((3 : Nat) : Int))).run Tryd.prog w = .ok (.int .u64 (bs 3 : Nat)) w := by kernel_rfl
  have i4 : (Instr.index 90 (.agg #[.int .u64 2, .int .u64 3, .int .u64 5, .int .u64 7, .int .u64 11, .int .u64 13, .int .u64 17, .int .u64 19, .int .u64 23, .int .u64 29, .int .u64 31, .int .u64 37]) (.int .i64 ((4 : Nat) : Int))).run Tryd.prog w = .ok (.int .u64 (bs 4 : Nat)) w := by kernel_rfl
  have i5 : (Instr.index 90 (.agg #[.int .u64 2, .int .u64 3, .int .u64 5, .int .u64 7, .int .u64 11, .int .u64 13, .int .u64 17, .int .u64 19, .int .u64 23, .int .u64 29, .int .u64 31, .int .u64 37]) (.int .i64 ((5 : Nat) : Int))).run Tryd.prog w = .ok (.int .u64 (bs 5 : Nat)) w := by kernel_rfl
  have i6 : (Instr.index 90 (.agg #[.int .u64 2, .int .u64 3, .int .u64 5, .int .u64 7, .int .u64 11, .int .u64 13, .int .u64 17, .int .u64 19, .int .u64 23, .int .u64 29, .int .u64 31, .int .u64 37]) (.int .i64 ((6 : Nat) : Int))).run Tryd.prog w = .ok (.int .u64 (bs 6 : Nat)) w := by kernel_rfl
  have i7 : (Instr.index 90 (.agg #[.int .u64 2, .int .u64 3, .int .u64 5, .int .u64 7, .int .u64 11, .int .u64 13, .int .u64 17, .int .u64 19, .int .u64 23, .int .u64 29, .int .u64 31, .int .u64 37]) (.int .i64 ((7 : Nat) : Int))).run Tryd.prog w = .ok (.int .u64 (bs 7 : Nat)) w := by kernel_rfl
  have i8 : (Instr.index 90 (.agg #[.int .u64 2, .int .u64 3, .int .u64 5, .int .u64 7, .int .u64 11, .int .u64 13, .int .u64 17, .int .u64 19, .int .u64 23, .int .u64 29, .int .u64 31, .int .u64 37]) (.int .i64 ((8 : Nat) : Int))).run Tryd.prog w = .ok (.int .u64 (bs 8 : Nat)) w := by kernel_rfl
  have i9 : (Instr.index 90 (.agg #[.int .u64 2, .int .u64 3, .int .u64 5, .int .u64 7, .int .u64 11, .int .u64 13, .int .u64 17, .int .u64 19, .int .u64 23, .int .u64 29, .int .u64 31, .int .u64 37]) (.int .i64 ((9 : Nat) : Int))).run Tryd.prog w = .ok (.int .u64 (bs 9 : Nat)) w := by kernel_rfl
  have i10 : (Instr.index 90 (.agg #[.int .u64 2, .int .u64 3, .int .u64 5, .int .u64 7, .int .u64 11, .int .u64 13, .int .u64 17, .int .u64 19, .int .u64 23, .int .u64 29, .int .u64 31, .int .u64 37]) (.int .i64 ((10 : Nat) : Int))).run Tryd.prog w = .ok (.int .u64 (bs 10 : Nat)) w := by kernel_rfl
  have i11 : (Instr.index 90 (.agg #[.int .u64 2, .int .u64 3, .int .u64 5, .int .u64 7, .int .u64 11, .int .u64 13, .int .u64 17, .int .u64 19, .int .u64 23, .int .u64 29, .int .u64 31, .int .u64 37]) (.int .i64 ((11 : Nat) : Int))).run Tryd.prog w = .ok (.int .u64 (bs 11 : Nat)) w := by kernel_rfl
  match k, hk with
  | 0, _ => exact i0
  | 1, _ => exact i1
  | 2, _ => exact i2
  | 3, _ => exact i3
  | 4, _ => exact i4
  | 5, _ => exact i5
  | 6, _ => exact i6
  | 7, _ => exact i7
  | 8, _ => exact i8
  | 9, _ => exact i9
  | 10, _ => exact i10
  | 11, _ => exact i11
theorem prime_Is_lo (n : Nat) (hn : n < 2) (w : World) :
    Calls Tryd.prog 53 #[.int .u64 n] w fun e w' => e = .returned (.bool (isB n)) ∧ Below w.heap.size w w' := by
  rw [isB_no (fun h => by have := h.1; omega)]
  go_enter Tryd.func53, Tryd.ntmps53
  go_wp2
  refine wp_scope_straight ?_
  go_wp2
  go_ret
  exact ⟨rfl, Below.refl _ _⟩
set_option maxRecDepth 100000 in
set_option maxHeartbeats 1000000 in
theorem prime_Is (n : Nat) (hn : n < 2147483648) (w : World) (hT : TabAt 1 Lib.deBruijn64tab w) :
    Calls Tryd.prog 53 #[.int .u64 n] w fun e w' => e = .returned (.bool (isB n)) ∧ Below w.heap.size w w' := by
  by_cases hn2 : n < 2
  · exact prime_Is_lo n hn2 w
  have hbx := boxes1 w #[.int .u64 2, .int .u64 3, .int .u64 5, .int .u64 7, .int .u64 11, .int .u64 13, .int .u64 17, .int .u64 19, .int .u64 23, .int .u64 29, .int .u64 31, .int .u64 37] 90
  have hB0 := hbx.below
  clear hbx
  have HT := Alg.hid hT
  clear hT
  have g1 : decide ((n : Int) < 2) = false := decide_eq_false (by omega)
  have g2 : decide ((9223372036854775808 : Int) ≤ (n : Int)) = false := decide_eq_false (by omega)
  go_enter Tryd.func53, Tryd.ntmps53
  go_wp2
  go_step3
  go_wp2
  go_loop [19] (fun v => ∃ k : Nat, v = .int .i64 k ∧ k ≤ 12 ∧ Hid (∀ j, j < k → n % bs j ≠ 0)) (fun v => 12 - (intOf v).toNat)
  case atStart => exact ⟨0, rfl, by omega, fun j hj => by omega⟩
  case round =>
    obtain ⟨k, rfl, hk, hND⟩ := hrel
    by_cases hk12 : k < 12
    · have hix := bases_at k hk12
      have hbl := bs_lt k hk12
      have hb0 : ((bs k : Int) == 0) = false := by simp; omega
      by_cases hm : n % bs k = 0
      · have hm' : ((n : Int) % (bs k : Int) == 0) = true := int_eq_yes (by omega)
        have HI := Alg.hid (is_base (bs_mem k hk12) hm)
        clear hm
        by_cases hnb : n = bs k
        · have HB := Alg.hid (isB_yes (HI.out.2 hnb))
          have hq : ((n : Int) == (bs k : Int)) = true := int_eq_yes (by omega)
          clear hnb
          go_wp2
          (try rw [Exit.noGoto_ret])
          go_ret
          exact ⟨by rw [HB.out]; rfl, hB0⟩
        · have HB := Alg.hid (isB_no (fun h => hnb (HI.out.1 h)))
          have hq : ((n : Int) == (bs k : Int)) = false := int_eq_no (by omega)
          clear hnb
          go_wp2
          (try rw [Exit.noGoto_ret])
          go_ret
          exact ⟨by rw [HB.out]; rfl, hB0⟩
      · have hm' : ((n : Int) % (bs k : Int) == 0) = false := int_eq_no (by omega)
        have HM := Alg.hid hm
        clear hm
        go_wp2
        go_round
        case rel => exact ⟨k + 1, by go_num, by omega, fun j hj => by
          by_cases e : j = k
          · rw [e]; exact HM.out
          · exact hND.out j (by omega)⟩
        case measure => simp [intOf]; omega
    · have ek : k = 12 := by omega
      subst ek
      have hND12 := Alg.hid hND.out
      have h2 : n % 2 ≠ 0 := hND.out 0 (by omega)
      clear hND
      obtain ⟨s, d, hs, hs64, hsd, hdo, hdq⟩ := ctz_split (n := n - 1) (by omega) (by omega)
      have hs0 : 0 < s := by
        rcases Nat.eq_zero_or_pos s with h | h
        · subst h; rw [Nat.pow_zero, Nat.one_mul] at hsd; omega
        · exact h
      have hd0 : d < 2147483648 := by
        have : 1 * d ≤ 2 ^ s * d := Nat.mul_le_mul_right _ (Nat.pow_pos (by omega))
        omega
      have e1 : (n : Int) - 1 = ((n - 1 : Nat) : Int) := by omega
      have ed : (((n - 1 : Nat) : Int)) / 2 ^ s = (d : Int) := by rw [hdq]; simp
      have HSD := Alg.hid hsd
      have HDO := Alg.hid hdo
      have HS := Alg.hid hs
      clear hs hsd hdq hdo h2
      go_wp2_with fail
      refine (bits_TZ64 (n - 1) (by omega) (by omega) _ (fun j hj => ((Below.refl _ _).alloc (Nat.le_refl _) _).cell (cell_lt (HT.out j hj)) |>.trans (HT.out j hj))).mono ?_
      rintro e w' ⟨rfl, rfl⟩
      rw [HS.out]
      go_wp2
      go_step3
      go_wp2
      clear g1 g2
      have HND := Alg.hid hND12.out
      clear hND12
      go_loopg [38] 12 (fun g v wr => ∃ k : Nat, k + g = 12 ∧ v = .int .i64 k ∧ Hid (∀ j, j < k → PassAt (bs j) n s d) ∧ Below w.heap.size w wr)
      case atStart => exact ⟨0, rfl, rfl, fun j hj => by omega, hB0⟩
      case round =>
        obtain ⟨k, hkg, rfl, hPS, hbw⟩ := hrel
        have HB := Alg.hid hbw
        clear hbw
        cases gk with
        | zero =>
          have ek : k = 12 := by omega
          subst ek
          have HP := Alg.hid (isB_yes (pass_is (by omega) hn HND.out HSD.out HDO.out hPS.out))
          go_wp2
          (try rw [Exit.noGoto_ret])
          go_ret
          exact ⟨by rw [HP.out]; rfl, HB.out⟩
        | succ g =>
          have hk12 : k < 12 := by omega
          have hix := bases_at k hk12
          go_wp2_with fail
          refine (prime_power (bs k) d n (by omega) (by omega) (by omega) _).mono ?_
          rintro e w1 ⟨rfl, hb1⟩
          have hX := Nat.mod_lt (bs k ^ d) (show 0 < n by omega)
          have HX : Hid (powM n (bs k) d = bs k ^ d % n) := rfl
          rw [HX.out]
          generalize hXX : bs k ^ d % n = X at hX HX ⊢
          have HXX := Alg.hid hXX
          clear hXX
          have hB1 : Hid (Below w.heap.size w w1) := bl HB.out hb1 HB.out.size
          clear hb1
          by_cases hx1 : X = 1
          · have HPA : Hid (PassAt (bs k) n s d) := Or.inl (by rw [HXX.out]; exact hx1)
            subst hx1
            go_wp2
            go_roundg g
            case rel => exact ⟨k + 1, by omega, by go_num, fun j hj => by
              by_cases e : j = k
              · rw [e]; exact HPA.out
              · exact hPS.out j (by omega), hB1.out⟩
            case measure => omega
          · have hq1 : ((X : Int) == 1) = false := int_eq_no (by omega)
            by_cases hx2 : X = n - 1
            · have HPA : Hid (PassAt (bs k) n s d) := Or.inr ⟨0, hs0, by rw [Nat.pow_zero, Nat.mul_one, HXX.out]; exact hx2⟩
              have hq2 : ((X : Int) == (n : Int) - 1) = true := int_eq_yes (by omega)
              have hq3 : ((X : Int) == ((n - 1 : Nat) : Int)) = true := int_eq_yes (by omega)
              clear hx2
              go_wp2
              go_roundg g
              case rel => exact ⟨k + 1, by omega, by go_num, fun j hj => by
                by_cases e : j = k
                · rw [e]; exact HPA.out
                · exact hPS.out j (by omega), hB1.out⟩
              case measure => omega
            · have hq2 : ((X : Int) == (n : Int) - 1) = false := int_eq_no (by omega)
              have hq3 : ((X : Int) == ((n - 1 : Nat) : Int)) = false := int_eq_no (by omega)
              have HX1 := Alg.hid hx1
              have HX2 := Alg.hid hx2
              clear hx1 hx2
              go_wp2
              go_loopg [10, 55] (s - 1) (fun g2 x v wr => ∃ j Y : Nat, j + g2 = s - 1 ∧ v = .int .i64 j ∧ x = .int .u64 Y ∧ Y < n ∧ Hid (bs k ^ (d * 2 ^ j) % n = Y) ∧ Hid (∀ r, r ≤ j → bs k ^ (d * 2 ^ r) % n ≠ n - 1) ∧ Below w.heap.size w wr)
              case atStart => exact ⟨0, X, by omega, rfl, rfl, hX, by show _ = _; rw [Nat.pow_zero, Nat.mul_one]; exact HXX.out, fun r hr => by
                have : r = 0 := by omega
                rw [this, Nat.pow_zero, Nat.mul_one, HXX.out]; exact HX2.out, hB1.out⟩
              case round =>
                obtain ⟨j, Y, hjg, rfl, rfl, hY, hYE, hNo, hbw⟩ := hrel
                have HB2 := Alg.hid hbw
                clear hbw
                cases gk with
                | zero =>
                  have hj : j = s - 1 := by omega
                  have hlt : ¬ ((j : Int) < (s : Int) - 1) := by omega
                  have HJ := Alg.hid hj
                  clear hj
                  have HP : Hid (isB n = false) := isB_no (fun hpr => by
                    rcases is_pass hpr (HND.out k hk12) hk12 HSD.out with h | ⟨r, hr, h⟩
                    · exact HX1.out (by rw [← HXX.out]; exact h)
                    · exact hNo.out r (by have := HJ.out; omega) h)
                  go_wp2
                  (try rw [Exit.noGoto_ret])
                  go_ret
                  exact ⟨by rw [HP.out]; rfl, HB2.out⟩
                | succ g2 =>
                  have hlt : (j : Int) < (s : Int) - 1 := by omega
                  go_wp2_with fail
                  refine (prime_times Y Y n (by omega) (by omega) _).mono ?_
                  rintro e w2 ⟨rfl, hb2⟩
                  have hZ := mulM_lt n Y Y (by omega)
                  have hZE : Hid (bs k ^ (d * 2 ^ (j + 1)) % n = mulM n Y Y) := by
                    show _ = _
                    rw [mulM, ← hYE.out, ← Nat.mul_mod, ← Nat.pow_two, ← Nat.pow_mul, Nat.mul_assoc, ← Nat.pow_succ]
                  generalize mulM n Y Y = Z at hZ hZE ⊢
                  have hB3 : Hid (Below w.heap.size w w2) := bl HB2.out hb2 HB2.out.size
                  clear hb2
                  by_cases hz : Z = n - 1
                  · have HPA : Hid (PassAt (bs k) n s d) := Or.inr ⟨j + 1, by omega, by rw [hZE.out]; exact hz⟩
                    have hq4 : ((Z : Int) == (n : Int) - 1) = true := int_eq_yes (by omega)
                    have hq5 : ((Z : Int) == ((n - 1 : Nat) : Int)) = true := int_eq_yes (by omega)
                    clear hz
                    go_wp2
                    go_roundg g
                    case rel => exact ⟨k + 1, by omega, by go_num, fun j hj => by
                      by_cases e : j = k
                      · rw [e]; exact HPA.out
                      · exact hPS.out j (by omega), hB3.out⟩
                    case measure => omega
                  · have hq4 : ((Z : Int) == (n : Int) - 1) = false := int_eq_no (by omega)
                    have hq5 : ((Z : Int) == ((n - 1 : Nat) : Int)) = false := int_eq_no (by omega)
                    have HZ := Alg.hid hz
                    clear hz
                    go_wp2
                    go_roundg g2
                    case rel => exact ⟨j + 1, Z, by omega, by go_num, rfl, hZ, hZE, fun r hr => by
                      by_cases e : r = j + 1
                      · rw [e, hZE.out]; exact HZ.out
                      · exact hNo.out r (by omega), hB3.out⟩
                    case measure => omega
/-- the table that math/bits' initialiser lays -/
def Tab (w : World) : Prop := TabAt 1 Lib.deBruijn64tab w
theorem Tab.mono {w w' : World} (h : Tab w) (hb : Below w.heap.size w w') : Tab w' := fun j hj => (hb.cell (cell_lt (h j hj))).trans (h j hj)
theorem modp_Field (p : Nat) (hp : p < 4294967296) (w : World) (hT : Tab w) :
    Calls Tryd.prog 13 #[.int .u32 p] w fun e w' => e = .returned (.int .i64 (errP p)) ∧ Below w.heap.size w w' := by
  by_cases h : p < 2147483648
  · have g1 : ¬ (2147483647 : Int) < (p : Int) := by omega
    by_cases hp2 : IsPr p
    · rw [errP_yes hp2 h]
      have HB := Alg.hid (isB_yes hp2)
      clear hp2
      go_enter Tryd.func13, Tryd.ntmps13
      go_wp2_with fail
      refine (prime_Is p h _ hT).mono ?_
      rw [HB.out]
      rintro e w' ⟨rfl, hb⟩
      go_wp2
      go_ret
      exact ⟨rfl, hb⟩
    · rw [errP_no (fun x => hp2 x.1)]
      have HB := Alg.hid (isB_no hp2)
      clear hp2
      go_enter Tryd.func13, Tryd.ntmps13
      go_wp2_with fail
      refine (prime_Is p h _ hT).mono ?_
      rw [HB.out]
      rintro e w' ⟨rfl, hb⟩
      go_wp2
      go_ret
      exact ⟨rfl, hb⟩
  · rw [errP_no (fun x => h x.2)]
    have g1 : (2147483647 : Int) < (p : Int) := by omega
    clear h
    go_enter Tryd.func13, Tryd.ntmps13
    go_wp2
    go_ret
    exact ⟨rfl, Below.refl _ _⟩
/-- so at each prime, wherever the table is laid -/
theorem fieldC_of {w : World} (hT : Tab w) (p : Nat) (hp : p < 4294967296) : FieldC w p := fun w' hb => modp_Field p hp w' (hT.mono hb)
end Go.Proofs.YtcdflpkbdabljaaDoor
