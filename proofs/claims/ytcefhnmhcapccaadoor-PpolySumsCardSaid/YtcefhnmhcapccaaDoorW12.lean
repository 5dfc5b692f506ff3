/- Contract of the reference's Same. -/
import Derived.Test.YtcefhnmhcapccaaDoorW11
open Alg
namespace Go.Proofs.YtcefhnmhcapccaaDoor
open Go.RowKit
theorem ref_Same0 (p : Nat) (a : Option Addr) (n cap : Nat) (l : List Nat) (a' : Option Addr) (cap' : Nat) (l' : List Nat) (w : World) (h : Sl w a n cap l) (h' : Sl w a' n cap' l') (hn : n ≤ 1099511627776) (j : Nat) (bv : Bool) (hj : j ≤ n)
    (hall : ∀ i, i < j → nth l i = nth l' i) (hend : (j = n ∧ bv = true) ∨ (j < n ∧ nth l j ≠ nth l' j ∧ bv = false)) :
    Calls Tryd.prog 16 #[.agg #[.int .u32 p, .slice a n cap], .agg #[.int .u32 p, .slice a' n cap']] w fun e w' => e = .returned (.bool bv) ∧ Below w.heap.size w w' := by
  have hbx := boxes2 w #[.int .u32 (p : Int), .slice a n cap] #[.int .u32 (p : Int), .slice a' n cap'] 25 25
  have HA := Alg.hid hall
  have HE := Alg.hid hend
  clear hall hend
  go_enter Tryd.func16, Tryd.ntmps16
  go_wp2
  go_loopw [5] (fun i wr => ∃ k : Nat, i = .int .i64 k ∧ k ≤ j ∧ Boxes w wr [#[.int .u32 (p : Int), .slice a n cap], #[.int .u32 (p : Int), .slice a' n cap']]) (fun i _ => n - (intOf i).toNat)
  case atStart => exact ⟨0, rfl, Nat.zero_le _, hbx⟩
  case round =>
    clear hbx
    obtain ⟨k, rfl, hk, hbx⟩ := hrel
    have d0 : wr.cell? ⟨w.heap.size, 1, none⟩ = some (.slice a n cap) := hbx.cell' 0 1 _ _ rfl rfl
    have d1 : wr.cell? ⟨w.heap.size + 1, 1, none⟩ = some (.slice a' n cap') := hbx.cell' 1 1 _ _ rfl rfl
    by_cases hkn : k < n
    · rcases h.rd with h0 | ⟨b, off, rfl, hc⟩
      · omega
      rcases h'.rd with h0 | ⟨b', off', rfl, hc'⟩
      · omega
      have c1 : wr.cell? ⟨b, off + k, none⟩ = some (.int .u32 (nth l k : Nat)) := (hbx.below.cell (p := ⟨b, off + k, none⟩) (cell_lt (hc k hkn))).trans (hc k hkn)
      have c2 : wr.cell? ⟨b', off' + k, none⟩ = some (.int .u32 (nth l' k : Nat)) := (hbx.below.cell (p := ⟨b', off' + k, none⟩) (cell_lt (hc' k hkn))).trans (hc' k hkn)
      clear hc hc'
      have s1 : (0 : Int) ≤ (k : Int) := by omega
      have s2 : (k : Int) < (n : Int) := by omega
      by_cases ek : k = j
      · subst ek
        rcases HE.out with ⟨h1, _⟩ | ⟨_, h1, h2⟩
        · omega
        · have s3 : ((nth l k : Int) != (nth l' k : Int)) = true := by simp; omega
          have HB := Alg.hid h2
          clear h1 h2
          go_wp2
          go_quiet (fail)
          go_wp2
          go_ret
          exact ⟨by rw [HB.out]; rfl, (hbx.drewN _).below⟩
      · have s3 : ((nth l k : Int) != (nth l' k : Int)) = false := by simp; have := HA.out k (by omega); omega
        go_wp2
        go_quiet (fail)
        go_wp2
        go_roundw
        case rel => exact ⟨k + 1, by go_num, by omega, hbx.drewN _⟩
        case measure => simp [intOf]; omega
    · rcases HE.out with ⟨_, h1⟩ | ⟨h1, _⟩
      · have HB := Alg.hid h1
        clear h1
        go_wp2
        go_ret
        exact ⟨by rw [HB.out]; rfl, hbx.below⟩
      · omega
theorem ref_Same (p : Nat) (a : Option Addr) (n cap : Nat) (l : List Nat) (q : Nat) (a' : Option Addr) (n' cap' : Nat) (l' : List Nat) (w : World) (h : Sl w a n cap l) (h' : Sl w a' n' cap' l') (hn : n ≤ 1099511627776) :
    Calls Tryd.prog 16 #[.agg #[.int .u32 p, .slice a n cap], .agg #[.int .u32 q, .slice a' n' cap']] w fun e w' => e = .returned (.bool (sameB p l q l')) ∧ Below w.heap.size w w' := by
  by_cases e : p = q
  · subst e
    by_cases e2 : n = n'
    · subst e2
      rcases least (fun i => nth l i = nth l' i) n with hall | ⟨j, h1, h2, h3⟩
      · exact ref_Same0 p a n cap l a' cap' l' w h h' hn n _ (Nat.le_refl _) hall (Or.inl ⟨rfl, sameB_all h.len h'.len hall⟩)
      · exact ref_Same0 p a n cap l a' cap' l' w h h' hn j _ (by omega) h3 (Or.inr ⟨h1, h2, sameB_at j h2⟩)
    · have hbx := boxes2 w #[.int .u32 (p : Int), .slice a n cap] #[.int .u32 (p : Int), .slice a' n' cap'] 25 25
      have HB : Hid (sameB p l p l' = false) := sameB_len (by rw [h.len, h'.len]; exact e2)
      have s1 : ((n : Int) != (n' : Int)) = true := by simp; omega
      clear e2
      go_enter Tryd.func16, Tryd.ntmps16
      go_wp2
      go_ret
      exact ⟨by rw [HB.out]; rfl, hbx.below⟩
  · have hbx := boxes2 w #[.int .u32 (p : Int), .slice a n cap] #[.int .u32 (q : Int), .slice a' n' cap'] 25 25
    have HB : Hid (sameB p l q l' = false) := sameB_ne e
    have s1 : ((p : Int) != (q : Int)) = true := by simp; omega
    clear e
    go_enter Tryd.func16, Tryd.ntmps16
    go_wp2
    go_ret
    exact ⟨by rw [HB.out]; rfl, hbx.below⟩
end Go.Proofs.YtcefhnmhcapccaaDoor
