/- Products limb by limb; a first guess of a quotient: in plain words. -/
import Derived.Test.YtbnjmeeaaieicaaDoorB9
open Alg
namespace Alg
theorem valN_set : ∀ (l : List Nat) (k s : Nat), k < l.length → valN (l.set k s) + 4294967296 ^ k * nth l k = valN l + 4294967296 ^ k * s
  | [], k, s, h => by simp at h
  | c :: l, 0, s, _ => by
    show s + 4294967296 * valN l + 1 * c = c + 4294967296 * valN l + 1 * s
    omega
  | c :: l, k + 1, s, h => by
    have ih := valN_set l k s (by simpa using h)
    have e1 : nth (c :: l) (k + 1) = nth l k := rfl
    rw [List.set_cons_succ, valN_cons, valN_cons, e1, Nat.pow_succ']
    have e2 : 4294967296 * (valN (l.set k s) + 4294967296 ^ k * nth l k) = 4294967296 * (valN l + 4294967296 ^ k * s) := by rw [ih]
    rw [Nat.mul_add, Nat.mul_add, ← Nat.mul_assoc, ← Nat.mul_assoc] at e2
    omega
/-- the product on the way: row i, limb k, what is carried -/
structure MulI (la lb out : List Nat) (i k c : Nat) : Prop where
  len : out.length = la.length + lb.length
  val : valN out + 4294967296 ^ (i + k) * c = valN (la.take i) * valN lb + nth la i * 4294967296 ^ i * valN (lb.take k)
  zero : ∀ j, i + lb.length ≤ j → nth out j = 0
/-- the product on the way, row by row -/
structure MulO (la lb out : List Nat) (i : Nat) : Prop where
  len : out.length = la.length + lb.length
  val : valN out = valN (la.take i) * valN lb
  zero : ∀ j, i + lb.length ≤ j → nth out j = 0
theorem valN_zeros : ∀ n, valN (List.replicate n 0) = 0
  | 0 => rfl
  | n + 1 => by rw [List.replicate_succ, valN_cons, valN_zeros n]
theorem nth_zeros (n i : Nat) : nth (List.replicate n 0) i = 0 := by rw [← upto_zero (fun _ => 0) n, nth_upto]; split <;> rfl
theorem MulO.start (la lb : List Nat) : MulO la lb (List.replicate (la.length + lb.length) 0) 0 :=
  ⟨by simp, by rw [valN_zeros]; simp [valN], fun j _ => nth_zeros _ _⟩
theorem MulO.row {la lb out : List Nat} {i : Nat} (h : MulO la lb out i) : MulI la lb out i 0 0 :=
  ⟨h.len, by rw [h.val]; simp [valN], h.zero⟩
theorem MulI.step {la lb out : List Nat} {i k c : Nat} (h : MulI la lb out i k c) (hi : i < la.length) (hk : k < lb.length) :
    MulI la lb (out.set (i + k) ((nth la i * nth lb k + nth out (i + k) + c) % 4294967296)) i (k + 1) ((nth la i * nth lb k + nth out (i + k) + c) / 4294967296) := by
  have hlt : i + k < out.length := by rw [h.len]; omega
  refine ⟨by rw [List.length_set]; exact h.len, ?_, fun j hj => ?_⟩
  · have h1 := valN_set out (i + k) ((nth la i * nth lb k + nth out (i + k) + c) % 4294967296) hlt
    have h2 := h.val
    have h3 := Nat.mod_add_div (nth la i * nth lb k + nth out (i + k) + c) 4294967296
    generalize (nth la i * nth lb k + nth out (i + k) + c) % 4294967296 = s at *
    generalize (nth la i * nth lb k + nth out (i + k) + c) / 4294967296 = c' at *
    rw [valN_take_succ, show i + (k + 1) = i + k + 1 by omega, Nat.pow_succ, Nat.mul_assoc (4294967296 ^ (i + k)), Nat.mul_add]
    have h4 : 4294967296 ^ (i + k) * s + 4294967296 ^ (i + k) * (4294967296 * c') = 4294967296 ^ (i + k) * (nth la i * nth lb k) + 4294967296 ^ (i + k) * nth out (i + k) + 4294967296 ^ (i + k) * c := by
      rw [← Nat.mul_add, h3, Nat.mul_add, Nat.mul_add]
    have h5 : nth la i * 4294967296 ^ i * (4294967296 ^ k * nth lb k) = 4294967296 ^ (i + k) * (nth la i * nth lb k) := by
      rw [Nat.pow_add]; ac_rfl
    rw [h5]
    omega
  · rw [nth_set, if_neg (by omega)]; exact h.zero j hj
theorem MulI.done {la lb out : List Nat} {i c : Nat} (h : MulI la lb out i lb.length c) (hi : i < la.length) : MulO la lb (out.set (i + lb.length) c) (i + 1) := by
  have hlt : i + lb.length < out.length := by rw [h.len]; omega
  refine ⟨by rw [List.length_set]; exact h.len, ?_, fun j hj => ?_⟩
  · have h1 := valN_set out (i + lb.length) c hlt
    have h2 := h.val
    rw [h.zero _ (Nat.le_refl _), Nat.mul_zero, Nat.add_zero] at h1
    rw [h1, h2, valN_take_succ, valN_take_all (Nat.le_refl _), Nat.add_mul, Nat.mul_comm (nth la i)]
  · rw [nth_set, if_neg (by omega)]; exact h.zero j (by omega)
theorem MulO.done {la lb out : List Nat} {i : Nat} (h : MulO la lb out i) (hi : la.length ≤ i) : valN out = valN la * valN lb := by
  rw [h.val, valN_take_all hi]
theorem limb_bound {x y z c : Nat} (hx : x < 4294967296) (hy : y < 4294967296) (hz : z < 4294967296) (hc : c < 4294967296) : x * y + z + c < 18446744073709551616 ∧ (x * y + z + c) / 4294967296 < 4294967296 := by
  have := Nat.mul_le_mul (show x ≤ 4294967295 by omega) (show y ≤ 4294967295 by omega)
  omega
/-! ### a guess -/
theorem top_le {l : List Nat} {m : Nat} (h : l.length = m + 1) : nth l m * 4294967296 ^ m ≤ valN l := by
  have e := valN_take_succ l m
  rw [← h, valN_take_all (Nat.le_refl _)] at e
  rw [e, Nat.mul_comm]; exact Nat.le_add_left _ _
theorem lt_top {l : List Nat} {n : Nat} (h : l.length = n + 1) (bl : ∀ i, nth l i < 4294967296) : valN l < (nth l n + 1) * 4294967296 ^ n := by
  have e := valN_take_succ l n
  rw [← h, valN_take_all (Nat.le_refl _)] at e
  have := valN_take_lt bl n
  rw [e, Nat.add_mul, Nat.one_mul, Nat.mul_comm (nth l n)]
  omega
theorem top2_le {l : List Nat} {m : Nat} (h : l.length = m + 2) : (nth l (m + 1) * 4294967296 + nth l m) * 4294967296 ^ m ≤ valN l := by
  have e := valN_take_succ l (m + 1)
  have e2 := valN_take_succ l m
  rw [show m + 1 + 1 = l.length by omega, valN_take_all (Nat.le_refl _), e2, Nat.pow_succ] at e
  rw [e, Nat.add_mul, Nat.mul_comm (nth l m), Nat.mul_assoc, Nat.mul_comm 4294967296, Nat.mul_comm (nth l (m + 1))]
  omega
/-- a guess: g times b, moved by k limbs, is not above r -/
def Guess (lr lb : List Nat) (g k : Nat) : Prop := 1 ≤ g ∧ g < 4294967296 ∧ k ≤ lr.length ∧ g * 4294967296 ^ k * valN lb ≤ valN lr
theorem guess1 {lr lb : List Nat} {m n : Nat} (hm : lr.length = m + 1) (hn : lb.length = n + 1) (hnm : n ≤ m) (bb : ∀ i, nth lb i < 4294967296) (br : ∀ i, nth lr i < 4294967296) (h : nth lb n + 1 ≤ nth lr m) : Guess lr lb (nth lr m / (nth lb n + 1)) (m - n) := by
  have hb0 : 0 < nth lb n + 1 := by omega
  have hg := Nat.div_mul_le_self (nth lr m) (nth lb n + 1)
  refine ⟨(Nat.le_div_iff_mul_le hb0).2 (by omega), Nat.lt_of_le_of_lt (Nat.div_le_self _ _) (br m), by omega, ?_⟩
  generalize nth lr m / (nth lb n + 1) = g at *
  have h1 := Nat.le_of_lt (lt_top hn bb)
  have h2 := top_le hm
  have h3 : g * 4294967296 ^ (m - n) * valN lb ≤ g * 4294967296 ^ (m - n) * ((nth lb n + 1) * 4294967296 ^ n) := Nat.mul_le_mul_left _ h1
  have h4 : g * 4294967296 ^ (m - n) * ((nth lb n + 1) * 4294967296 ^ n) = g * (nth lb n + 1) * 4294967296 ^ m := by
    rw [show m = (m - n) + n by omega, Nat.pow_add, Nat.add_sub_cancel]; ac_rfl
  rw [h4] at h3
  exact Nat.le_trans h3 (Nat.le_trans (Nat.mul_le_mul_right _ hg) h2)
theorem guess2 {lr lb : List Nat} {m n g : Nat} (hm : lr.length = m + 2) (hn : lb.length = n + 1) (hnm : n ≤ m) (bb : ∀ i, nth lb i < 4294967296) (h0 : nth lr (m + 1) ≠ 0) (hg : g = min ((nth lr (m + 1) * 4294967296 + nth lr m) / (nth lb n + 1)) 4294967295) : Guess lr lb g (m - n) := by
  have hb0 : 0 < nth lb n + 1 := by omega
  have hbl := bb n
  have hq : g * (nth lb n + 1) ≤ nth lr (m + 1) * 4294967296 + nth lr m := by
    refine Nat.le_trans (Nat.mul_le_mul_right _ ?_) (Nat.div_mul_le_self _ (nth lb n + 1))
    rw [hg]; exact Nat.min_le_left _ _
  have hq1 : 1 ≤ (nth lr (m + 1) * 4294967296 + nth lr m) / (nth lb n + 1) := (Nat.le_div_iff_mul_le hb0).2 (by omega)
  refine ⟨by rw [hg]; exact Nat.le_min.2 ⟨hq1, by omega⟩, by rw [hg]; exact Nat.lt_of_le_of_lt (Nat.min_le_right _ _) (by omega), by omega, ?_⟩
  have h1 := Nat.le_of_lt (lt_top hn bb)
  have h2 := top2_le hm
  have h3 : g * 4294967296 ^ (m - n) * valN lb ≤ g * 4294967296 ^ (m - n) * ((nth lb n + 1) * 4294967296 ^ n) := Nat.mul_le_mul_left _ h1
  have h4 : g * 4294967296 ^ (m - n) * ((nth lb n + 1) * 4294967296 ^ n) = g * (nth lb n + 1) * 4294967296 ^ m := by
    rw [show m = (m - n) + n by omega, Nat.pow_add, Nat.add_sub_cancel]; ac_rfl
  rw [h4] at h3
  exact Nat.le_trans h3 (Nat.le_trans (Nat.mul_le_mul_right _ hq) h2)
theorem guess3 {lr lb : List Nat} (h : valN lb ≤ valN lr) : Guess lr lb 1 0 := ⟨Nat.le_refl _, by omega, Nat.zero_le _, by rw [Nat.pow_zero, Nat.mul_one, Nat.one_mul]; exact h⟩
/-- noughts below -/
theorem valN_shift (k : Nat) (l : List Nat) : valN (List.replicate k 0 ++ l) = 4294967296 ^ k * valN l := by
  induction k with
  | zero => simp
  | succ k ih => rw [List.replicate_succ, List.cons_append, valN_cons, ih, Nat.zero_add, ← Nat.mul_assoc, ← Nat.pow_succ']
end Alg
