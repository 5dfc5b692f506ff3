/- Contracts of nat.trim, nat.Of, whole.of, whole.Of. -/
import Derived.Test.YtcefhnmhcapccaaDoorW2
import Derived.Test.YtcefhnmhcapccaaDoorWB
open Alg Go Go.RowKit
namespace Go.Proofs.YtcefhnmhcapccaaDoor
open Go.RowKit
theorem nat_trim (a : Option Addr) (n cap : Nat) (l : List Nat) (w : World) (h : Sl w a n cap l) :
    Calls Tryd.prog 101 #[.slice a n cap] w fun e w' => (∃ n', e = .returned (.slice a n' n') ∧ Sl w a n' n' (trim l)) ∧ w' = w := by
  have hle := h.le
  have hcap := h.cap
  go_enter Tryd.func101, Tryd.ntmps101
  go_wp2
  go_loop [0] (fun v => ∃ k : Nat, v = .slice a k cap ∧ k ≤ n ∧ Hid (∀ i, k ≤ i → i < n → nth l i = 0)) (fun v => match v with | .slice _ k _ => k | _ => 0)
  case atStart => exact ⟨n, rfl, Nat.le_refl _, fun i h1 h2 => by omega⟩
  case round =>
    obtain ⟨k, rfl, hk, hz⟩ := hrel
    by_cases k0 : k = 0
    · have HF : Hid (l.take k = trim l) := trim_nth l n k h.len hk hz.out (Or.inl k0)
      subst k0
      go_wp2
      go_returns
      have ht := (h.take (Nat.zero_le n)).narrow (Nat.le_refl _) (Nat.zero_le _)
      rw [HF.out] at ht
      exact ⟨⟨_, rfl, ht⟩, rfl⟩
    · have hb0 : (0 : Int) < k := by omega
      rcases h.rd with h0 | ⟨b, off, rfl, hc⟩
      · omega
      · have hc1 := hc (k - 1) (by omega)
        have hbl : b < w.heap.size := cell_lt hc1
        clear hc
        by_cases hx : nth l (k - 1) = 0
        · go_wp2
          go_round
          case rel =>
            refine ⟨k - 1, by go_num, by omega, fun i h1 h2 => ?_⟩
            by_cases e : i = k - 1
            · rw [e]; exact hx
            · exact hz.out i (by omega) h2
          case measure => simp; omega
        · have HF : Hid (l.take k = trim l) := trim_nth l n k h.len hk hz.out (Or.inr hx)
          go_wp2
          go_returns
          have ht := (h.take hk).narrow (Nat.le_refl _) (by omega)
          rw [HF.out] at ht
          exact ⟨⟨_, rfl, ht⟩, rfl⟩
/-- a number's limbs -/
def limbs (n : Nat) : List Nat := trim [n % 4294967296, n / 4294967296]
theorem nat_Of (n : Nat) (w : World) (hn : n < 18446744073709551616) :
    Calls Tryd.prog 94 #[.int .u64 n] w fun e w' => ∃ a m, e = .returned (.slice a m m) ∧ Sl w' a m m (limbs n) ∧ Below w.heap.size w w' ∧ Prov w [] a m := by
  have hq : n / 4294967296 < 4294967296 := by omega
  have hs : Sl (w.alloc (.cells #[.int .u32 ((n : Int) % 4294967296), .int .u32 ((n : Int) / 4294967296)] 22)) (some ⟨w.heap.size, 0, none⟩) 2 2 [n % 4294967296, n / 4294967296] := by
    refine ⟨rfl, Nat.le_refl _, by omega, fun i => ?_, Or.inr ⟨_, _, rfl, fun i hi => ?_⟩⟩
    · match i with
      | 0 => exact Nat.mod_lt _ (by omega)
      | 1 => exact hq
      | i + 2 => show ([] : List Nat).getD i 0 < _; simp
    · rw [cell_box]
      match i, hi with
      | 0, _ => show some (Value.int .u32 ((n : Int) % 4294967296)) = some (Value.int .u32 ((n % 4294967296 : Nat) : Int)); simp
      | 1, _ => show some (Value.int .u32 ((n : Int) / 4294967296)) = some (Value.int .u32 ((n / 4294967296 : Nat) : Int)); simp
  have HS := Alg.hid hs
  clear hs
  have e1 : IntKind.u32.wrap (n : Int) = (n : Int) % 4294967296 := by
    unfold IntKind.wrap
    simp only []
    split
    · rename_i h
      rw [show IntKind.u32.signed = false from rfl, Bool.false_and] at h
      cases h
    · rfl
  have e2 : IntKind.u32.wrap ((n : Int) / 4294967296) = (n : Int) / 4294967296 := IntWalk.u32_in _ (by omega)
  go_enter Tryd.func94, Tryd.ntmps94
  go_wp2_with fail
  refine (nat_trim _ 2 2 _ _ HS.out).mono ?_
  rintro e w1 ⟨⟨m, rfl, hm⟩, rfl⟩
  go_wp2
  go_ret
  exact ⟨_, _, rfl, hm, (Below.refl _ _).alloc (Nat.le_refl _) _, Or.inr (Or.inr ⟨_, _, _, rfl, Nat.le_refl _⟩)⟩
end Go.Proofs.YtcefhnmhcapccaaDoor
