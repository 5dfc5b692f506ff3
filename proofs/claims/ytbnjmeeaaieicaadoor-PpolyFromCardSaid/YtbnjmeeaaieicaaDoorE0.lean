/- Contracts of the small functions on numbers modulo p. Contracts of the small functions on lists of coefficients. -/
import Derived.Test.YtbnjmeeaaieicaaDoorProg
import Derived.Test.YtbnjmeeaaieicaaDoorW0
section
open Alg
namespace Go.Proofs.YtbnjmeeaaieicaaDoor
open Go.RowKit
theorem cMul_le {a b : Nat} (ha : a < 4294967296) (hb : b < 4294967296) : (a : Int) * (b : Int) ≤ 18446744065119617025 ∧ 0 ≤ (a : Int) * (b : Int) := by
  have : a * b ≤ 4294967295 * 4294967295 := Nat.mul_le_mul (by omega) (by omega)
  have e : (a : Int) * (b : Int) = ((a * b : Nat) : Int) := by rw [Int.natCast_mul]
  omega
theorem ret_int {k : IntKind} {a b : Int} (h : a = b) : Ending.returned (.int k a) = .returned (.int k b) := by rw [h]
theorem addM_cast (p a b : Nat) : ((addM p a b : Nat) : Int) = ((a : Int) + b) % p := by simp [addM]
theorem mulM_cast (p a b : Nat) : ((mulM p a b : Nat) : Int) = ((a : Int) * b) % p := by simp [mulM]
theorem modp_Add (p a b : Nat) (w : World) (hp0 : 0 < p) (hp : p < 4294967296) (ha : a < 4294967296) (hb : b < 4294967296) :
    Calls Tryd.prog 22 #[.int .u32 p, .int .u32 a, .int .u32 b] w fun e w' => e = .returned (.int .u32 (addM p a b : Nat)) ∧ w' = w := by
  have h1 : ((a : Int) + b) % p < p := Int.emod_lt_of_pos _ (by omega)
  have h2 : 0 ≤ ((a : Int) + b) % p := Int.emod_nonneg _ (by omega)
  go_enter Tryd.func22, Tryd.ntmps22
  go_wp2
  go_ret
  exact ⟨ret_int (addM_cast p a b).symm, rfl⟩
theorem modp_Mul (p a b : Nat) (w : World) (hp0 : 0 < p) (hp : p < 4294967296) (ha : a < 4294967296) (hb : b < 4294967296) :
    Calls Tryd.prog 26 #[.int .u32 p, .int .u32 a, .int .u32 b] w fun e w' => e = .returned (.int .u32 (mulM p a b : Nat)) ∧ w' = w := by
  have h1 : ((a : Int) * b) % p < p := Int.emod_lt_of_pos _ (by omega)
  have h2 : 0 ≤ ((a : Int) * b) % p := Int.emod_nonneg _ (by omega)
  obtain ⟨h3, h4⟩ := cMul_le ha hb
  go_enter Tryd.func26, Tryd.ntmps26
  go_wp2
  go_ret
  exact ⟨ret_int (mulM_cast p a b).symm, rfl⟩
theorem modp_Neg (p a : Nat) (w : World) (hp : p < 4294967296) (ha : a ≤ p) :
    Calls Tryd.prog 28 #[.int .u32 p, .int .u32 a] w fun e w' => e = .returned (.int .u32 (negM p a : Nat)) ∧ w' = w := by
  by_cases h : a = 0
  · subst h
    go_enter Tryd.func28, Tryd.ntmps28
    go_wp2
    go_ret
    exact ⟨rfl, rfl⟩
  · go_enter Tryd.func28, Tryd.ntmps28
    go_wp2
    go_ret
    exact ⟨ret_int (by unfold negM; rw [if_neg h]; omega), rfl⟩
theorem modp_Sub (p a b : Nat) (w : World) (hp0 : 0 < p) (hp : p < 4294967296) (ha : a < 4294967296) (hb : b ≤ p) :
    Calls Tryd.prog 24 #[.int .u32 p, .int .u32 a, .int .u32 b] w fun e w' => e = .returned (.int .u32 (subM p a b : Nat)) ∧ w' = w := by
  go_enter Tryd.func24, Tryd.ntmps24
  go_wp2_with fail
  refine (modp_Neg p b _ hp hb).mono ?_
  rintro e w' ⟨rfl, rfl⟩
  go_wp2_with fail
  refine (modp_Add p a (negM p b) _ hp0 hp ha (by have := negM_le p b; omega)).mono ?_
  rintro e w' ⟨rfl, rfl⟩
  go_wp2
  go_ret
  exact ⟨rfl, rfl⟩
end Go.Proofs.YtbnjmeeaaieicaaDoor
end
section
open Alg
namespace Go.Proofs.YtbnjmeeaaieicaaDoor
open Go.RowKit
theorem Sl.nth_ge {w : World} {a : Option Addr} {n cap : Nat} {l : List Nat} (h : Sl w a n cap l) {i : Nat} (hi : n ≤ i) : nth l i = 0 := by
  have := h.len; exact getD_ge (by omega)
theorem ref_at (p : Int) (a : Option Addr) (n cap : Nat) (l : List Nat) (i : Nat) (w : World) (h : Sl w a n cap l) :
    Calls Tryd.prog 88 #[.agg #[.int .u32 p, .slice a n cap], .int .i64 i] w fun e w' => e = .returned (.int .u64 (nth l i : Nat)) ∧ Below w.heap.size w w' := by
  by_cases hi : i < n
  · rcases h.rd with h0 | ⟨b, off, rfl, hc⟩
    · omega
    have hc1 := hc i hi
    have hb : b < w.heap.size := cell_lt hc1
    have hlt := h.lt i
    clear hc
    go_enter Tryd.func88, Tryd.ntmps88
    go_wp2
    go_ret
    exact ⟨rfl, by go_grown⟩
  · have hz := Sl.nth_ge h (i := i) (by omega)
    rw [hz]
    clear hz
    go_enter Tryd.func88, Tryd.ntmps88
    go_wp2
    go_ret
    exact ⟨rfl, by go_grown⟩
set_option maxHeartbeats 400000 in
theorem ref_cut (p : Nat) (a : Option Addr) (n cap : Nat) (l : List Nat) (w : World) (h : Sl w a n cap l) :
    Calls Tryd.prog 89 #[.int .u32 p, .slice a n cap] w (RetP p (trim l) [a] w) := by
  have hle := h.le
  have hcap := h.cap
  go_enter Tryd.func89, Tryd.ntmps89
  go_wp2
  go_loop [5] (fun v => ∃ k : Nat, v = .int .i64 k ∧ k ≤ n ∧ Hid (∀ i, k ≤ i → i < n → nth l i = 0)) (fun v => (intOf v).toNat)
  case atStart => exact ⟨n, rfl, Nat.le_refl _, fun i h1 h2 => by omega⟩
  case round =>
    obtain ⟨k, rfl, hk, hz⟩ := hrel
    by_cases k0 : k = 0
    · have HF : Hid (l.take k = trim l) := trim_nth l n k h.len hk hz.out (Or.inl k0)
      subst k0
      go_wp2
      go_returns
      have ht := h.take (Nat.zero_le n)
      rw [HF.out] at ht
      exact ⟨_, _, _, rfl, ht.mono (by go_grown), by go_grown, Prov.self⟩
    · have hb0 : (0 : Int) < k := by omega
      rcases h.rd with h0 | ⟨b, off, rfl, hc⟩
      · omega
      · have hc1 := hc (k - 1) (by omega)
        have hbl : b < w.heap.size := cell_lt hc1
        clear hc
        by_cases hx : nth l (k - 1) = 0
        · go_wp2
          go_round
          case rel =>
            refine ⟨k - 1, by go_num, by omega, fun i h1 h2 => ?_⟩
            by_cases e : i = k - 1
            · rw [e]; exact hx
            · exact hz.out i (by omega) h2
          case measure => simp [intOf]; omega
        · have HF : Hid (l.take k = trim l) := trim_nth l n k h.len hk hz.out (Or.inr hx)
          go_wp2
          go_returns
          have ht := h.take hk
          rw [HF.out] at ht
          exact ⟨_, _, _, rfl, ht.mono (by go_grown), by go_grown, Prov.self⟩
set_option maxHeartbeats 400000 in
theorem ppoly_of (p : Nat) (a : Option Addr) (n cap : Nat) (l : List Nat) (w : World) (h : Sl w a n cap l) :
    Calls Tryd.prog 85 #[.int .u32 p, .slice a n cap] w (RetP p (trim l) [a] w) := by
  have hle := h.le
  have hcap := h.cap
  go_enter Tryd.func85, Tryd.ntmps85
  go_wp2
  go_loop [5] (fun v => ∃ k : Nat, v = .int .i64 k ∧ k ≤ n ∧ Hid (∀ i, k ≤ i → i < n → nth l i = 0)) (fun v => (intOf v).toNat)
  case atStart => exact ⟨n, rfl, Nat.le_refl _, fun i h1 h2 => by omega⟩
  case round =>
    obtain ⟨k, rfl, hk, hz⟩ := hrel
    by_cases k0 : k = 0
    · have HF : Hid (l.take k = trim l) := trim_nth l n k h.len hk hz.out (Or.inl k0)
      subst k0
      go_wp2
      go_returns
      have ht := (h.take (Nat.zero_le n)).narrow (Nat.le_refl _) (Nat.zero_le _)
      rw [HF.out] at ht
      exact ⟨_, _, _, rfl, ht.mono (by go_grown), by go_grown, Prov.self⟩
    · have hb0 : (0 : Int) < k := by omega
      rcases h.rd with h0 | ⟨b, off, rfl, hc⟩
      · omega
      · have hc1 := hc (k - 1) (by omega)
        have hbl : b < w.heap.size := cell_lt hc1
        clear hc
        by_cases hx : nth l (k - 1) = 0
        · go_wp2
          go_round
          case rel =>
            refine ⟨k - 1, by go_num, by omega, fun i h1 h2 => ?_⟩
            by_cases e : i = k - 1
            · rw [e]; exact hx
            · exact hz.out i (by omega) h2
          case measure => simp [intOf]; omega
        · have HF : Hid (l.take k = trim l) := trim_nth l n k h.len hk hz.out (Or.inr hx)
          go_wp2
          go_returns
          have ht := (h.take hk).narrow (Nat.le_refl _) (by omega)
          rw [HF.out] at ht
          exact ⟨_, _, _, rfl, ht.mono (by go_grown), by go_grown, Prov.self⟩
theorem ppoly_lead (p : Int) (a : Option Addr) (n cap : Nat) (l : List Nat) (w : World) (h : Sl w a n cap l) :
    Calls Tryd.prog 84 #[.agg #[.int .u32 p, .slice a n cap]] w fun e w' => e = .returned (.int .u32 (nth l (n - 1) : Nat)) ∧ Below w.heap.size w w' := by
  have hle := h.le
  have hcap := h.cap
  by_cases n0 : n = 0
  · have hz := Sl.nth_ge h (i := n - 1) (by omega)
    rw [hz]
    clear hz
    subst n0
    go_enter Tryd.func84, Tryd.ntmps84
    go_wp2
    go_ret
    exact ⟨rfl, by go_grown⟩
  · rcases h.rd with h0 | ⟨b, off, rfl, hc⟩
    · omega
    have hc1 := hc (n - 1) (by omega)
    have hb : b < w.heap.size := cell_lt hc1
    clear hc
    go_enter Tryd.func84, Tryd.ntmps84
    go_wp2
    go_ret
    exact ⟨rfl, by go_grown⟩
theorem ppoly_Deg (p : Int) (a : Option Addr) (n cap : Nat) (w : World) (h : n ≤ 9223372036854775807) :
    Calls Tryd.prog 83 #[.agg #[.int .u32 p, .slice a n cap]] w fun e w' => e = .returned (.int .i64 (n - 1)) ∧ Below w.heap.size w w' := by
  go_enter Tryd.func83, Tryd.ntmps83
  go_wp2
  go_ret
  exact ⟨rfl, by go_grown⟩
end Go.Proofs.YtbnjmeeaaieicaaDoor
end
