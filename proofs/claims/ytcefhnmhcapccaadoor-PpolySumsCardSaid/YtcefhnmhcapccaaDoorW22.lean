/- Contracts of ppoly.Right and what it hands to the library, given modp.Field's. -/
import Derived.Test.YtcefhnmhcapccaaDoorW10
open Alg Go Go.RowKit
namespace Go.Proofs.YtcefhnmhcapccaaDoor
open Go.RowKit
theorem Right_c (p c bf : Nat) (w : World) (hc : w.cell? ⟨bf, 0, none⟩ = some (.int .u32 (p : Int))) :
    Calls Tryd.prog 74 #[.int .u32 c, .pointer (some ⟨bf, 0, none⟩)] w fun e w' => e = .returned (.bool (decide (p ≤ c))) ∧ w' = w := by
  by_cases h : p ≤ c
  · have h1 : (p : Int) ≤ (c : Int) := by omega
    have HB : Hid (decide (p ≤ c) = true) := decide_eq_true h
    clear h
    go_enter Tryd.func74, Tryd.ntmps74
    go_wp2
    go_ret
    exact ⟨by rw [HB.out]; rfl, rfl⟩
  · have h1 : ¬ (p : Int) ≤ (c : Int) := by omega
    have HB : Hid (decide (p ≤ c) = false) := decide_eq_false h
    clear h
    go_enter Tryd.func74, Tryd.ntmps74
    go_wp2
    go_ret
    exact ⟨by rw [HB.out]; rfl, rfl⟩
theorem IndexFunc0 (p bf : Nat) (a : Option Addr) (n cap : Nat) (l : List Nat) (w : World) (hc : w.cell? ⟨bf, 0, none⟩ = some (.int .u32 (p : Int))) (h : Sl w a n cap l) (hn : n ≤ 1099511627776) (j : Nat) (r : Int) (hj : j ≤ n)
    (hall : ∀ i, i < j → nth l i < p) (hend : (j = n ∧ r = -1) ∨ (j < n ∧ p ≤ nth l j ∧ r = j)) :
    Calls Tryd.prog 90 #[.slice a n cap, .func (.func 74) #[] #[.pointer (some ⟨bf, 0, none⟩)]] w fun e w' => e = .returned (.int .i64 r) ∧ w' = w := by
  have HA := Alg.hid hall
  have HE := Alg.hid hend
  clear hall hend
  go_enter Tryd.func90, Tryd.ntmps90
  go_wp2
  go_loop [8] (fun v => ∃ k : Nat, v = .int .i64 k ∧ k ≤ j) (fun v => n - (intOf v).toNat)
  case atStart => exact ⟨0, rfl, Nat.zero_le _⟩
  case round =>
    obtain ⟨k, rfl, hk⟩ := hrel
    by_cases hkn : k < n
    · rcases h.rd with h0 | ⟨b, off, rfl, hcl⟩
      · omega
      have c1 := hcl k hkn
      have hlt := h.lt k
      clear hcl
      by_cases ek : k = j
      · subst ek
        rcases HE.out with ⟨h1, _⟩ | ⟨_, h1, h2⟩
        · omega
        · have HD : Hid (decide (p ≤ nth l k) = true) := decide_eq_true h1
          have HR := Alg.hid h2
          clear h1 h2
          go_wp2_with fail
          refine (Right_c p (nth l k) bf _ hc).mono ?_
          rintro e w' ⟨rfl, rfl⟩
          rw [HD.out]
          go_wp2
          go_ret
          exact ⟨ret_int HR.out.symm, rfl⟩
      · have HD : Hid (decide (p ≤ nth l k) = false) := decide_eq_false (by have := HA.out k (by omega); omega)
        go_wp2_with fail
        refine (Right_c p (nth l k) bf _ hc).mono ?_
        rintro e w' ⟨rfl, rfl⟩
        rw [HD.out]
        go_wp2
        go_round
        case rel => exact ⟨k + 1, by go_num, by omega⟩
        case measure => simp [intOf]; omega
    · rcases HE.out with ⟨_, h1⟩ | ⟨h1, _⟩
      · have HR := Alg.hid h1
        clear h1
        go_wp2
        go_ret
        exact ⟨ret_int HR.out.symm, rfl⟩
      · omega
theorem ContainsFunc0 (p bf : Nat) (a : Option Addr) (n cap : Nat) (l : List Nat) (w : World) (hc : w.cell? ⟨bf, 0, none⟩ = some (.int .u32 (p : Int))) (h : Sl w a n cap l) (hn : n ≤ 1099511627776) (bv : Bool)
    (hb : (bv = false ∧ ∀ i, i < n → nth l i < p) ∨ (bv = true ∧ ∃ j, j < n ∧ p ≤ nth l j)) :
    Calls Tryd.prog 73 #[.slice a n cap, .func (.func 74) #[] #[.pointer (some ⟨bf, 0, none⟩)]] w fun e w' => e = .returned (.bool bv) ∧ w' = w := by
  rcases hb with ⟨rfl, hall⟩ | ⟨rfl, j0, hj0, hp0⟩
  · go_enter Tryd.func73, Tryd.ntmps73
    go_wp2_with fail
    refine (IndexFunc0 p bf a n cap l _ hc h hn n (-1) (Nat.le_refl _) hall (Or.inl ⟨rfl, rfl⟩)).mono ?_
    rintro e w' ⟨rfl, rfl⟩
    go_wp2
    go_ret
    exact ⟨rfl, rfl⟩
  · rcases least (fun i => nth l i < p) n with hall | ⟨j, h1, h2, h3⟩
    · have := hall j0 hj0; omega
    · have hj : (0 : Int) ≤ (j : Int) := by omega
      go_enter Tryd.func73, Tryd.ntmps73
      go_wp2_with fail
      refine (IndexFunc0 p bf a n cap l _ hc h hn j j (by omega) h3 (Or.inr ⟨h1, by omega, rfl⟩)).mono ?_
      rintro e w' ⟨rfl, rfl⟩
      go_wp2
      go_ret
      exact ⟨rfl, rfl⟩
end Go.Proofs.YtcefhnmhcapccaaDoor
