/- Contract of the reference's DivMod, whole; slices.Equal; ppoly.Same. -/
import Derived.Test.YtcefhnmhcapccaaDoorW16
import Derived.Test.YtcefhnmhcapccaaDoorE1
open Alg Go Go.RowKit
namespace Go.Proofs.YtcefhnmhcapccaaDoor
open Go.RowKit
theorem ref_DivMod (p : Nat) (fa : Option Addr) (fn fcap : Nat) (fl : List Nat) (ga : Option Addr) (gn gcap : Nat) (gl : List Nat) (q : Int) (w : World) (hf : Sl w fa fn fcap fl) (hg : Sl w ga gn gcap gl)
    (hg0 : 0 < gn) (hp0 : 1 < p) (hp : p < 4294967296) (hfn : fn ≤ 1099511627776) (hgn : gn ≤ 1099511627776) :
    Calls Tryd.prog 15 #[.agg #[.int .u32 p, .slice fa fn fcap], .agg #[.int .u32 q, .slice ga gn gcap]] w (RetD p (divL p fl gl) w) := by
  unfold divL divN
  rw [hf.len, hg.len]
  cases fa with
  | none =>
    have h0 : fn = 0 := by
      rcases hf.rd with h | ⟨b, o, h, _⟩
      · exact h
      · cases h
    subst h0
    have hl : fl = [] := List.length_eq_zero_iff.1 hf.len
    subst hl
    rw [show 0 + 1 - gn = 0 by omega]
    exact ref_DivLess0 p fcap ga gn gcap gl q w hf hg hg0 hp0 hp hgn
  | some x =>
    by_cases h : fn < gn
    · rw [show fn + 1 - gn = 0 by omega]
      exact ref_DivLess1 p x fn fcap fl ga gn gcap gl q w hf hg hg0 h hp0 hp hfn hgn
    · exact ref_DivMore1 p x fn fcap fl ga gn gcap gl q w hf hg hg0 (fn + 1 - gn) (by omega) (by omega) hp0 hp hfn hgn
theorem Equal0 (a : Option Addr) (n cap : Nat) (l : List Nat) (a' : Option Addr) (cap' : Nat) (l' : List Nat) (w : World) (h : Sl w a n cap l) (h' : Sl w a' n cap' l') (hn : n ≤ 1099511627776) (j : Nat) (bv : Bool) (hj : j ≤ n)
    (hall : ∀ i, i < j → nth l i = nth l' i) (hend : (j = n ∧ bv = true) ∨ (j < n ∧ nth l j ≠ nth l' j ∧ bv = false)) :
    Calls Tryd.prog 75 #[.slice a n cap, .slice a' n cap'] w fun e w' => e = .returned (.bool bv) ∧ Below w.heap.size w w' := by
  have HA := Alg.hid hall
  have HE := Alg.hid hend
  clear hall hend
  go_enter Tryd.func75, Tryd.ntmps75
  go_wp2
  go_loopw [13] (fun i wr => ∃ k : Nat, i = .int .i64 k ∧ k ≤ j ∧ Below w.heap.size w wr) (fun i _ => n - (intOf i).toNat)
  case atStart => exact ⟨0, rfl, Nat.zero_le _, Below.refl _ _⟩
  case round =>
    obtain ⟨k, rfl, hk, hb⟩ := hrel
    by_cases hkn : k < n
    · rcases h.rd with h0 | ⟨b, off, rfl, hc⟩
      · omega
      rcases h'.rd with h0 | ⟨b', off', rfl, hc'⟩
      · omega
      have c1 : wr.cell? ⟨b, off + k, none⟩ = some (.int .u32 (nth l k : Nat)) := (hb.cell (p := ⟨b, off + k, none⟩) (cell_lt (hc k hkn))).trans (hc k hkn)
      have c2 : wr.cell? ⟨b', off' + k, none⟩ = some (.int .u32 (nth l' k : Nat)) := (hb.cell (p := ⟨b', off' + k, none⟩) (cell_lt (hc' k hkn))).trans (hc' k hkn)
      clear hc hc'
      have s1 : (0 : Int) ≤ (k : Int) := by omega
      have s2 : (k : Int) < (n : Int) := by omega
      by_cases ek : k = j
      · subst ek
        rcases HE.out with ⟨h1, _⟩ | ⟨_, h1, h2⟩
        · omega
        · have s3 : ((nth l k : Int) != (nth l' k : Int)) = true := by simp; omega
          have HB := Alg.hid h2
          clear h1 h2
          go_wp2
          go_quiet (fail)
          go_wp2
          go_ret
          exact ⟨by rw [HB.out]; rfl, by first | exact hb | exact hb.trans ((Alg.below_drewN _ _).mono hb.size)⟩
      · have s3 : ((nth l k : Int) != (nth l' k : Int)) = false := by simp; have := HA.out k (by omega); omega
        go_wp2
        go_quiet (fail)
        go_wp2
        go_roundw
        case rel => exact ⟨k + 1, by go_num, by omega, by first | exact hb | exact hb.trans ((Alg.below_drewN _ _).mono hb.size)⟩
        case measure => simp [intOf]; omega
    · rcases HE.out with ⟨_, h1⟩ | ⟨h1, _⟩
      · have HB := Alg.hid h1
        clear h1
        go_wp2
        go_ret
        exact ⟨by rw [HB.out]; rfl, hb⟩
      · omega
theorem slices_Equal (a : Option Addr) (n cap : Nat) (l : List Nat) (a' : Option Addr) (n' cap' : Nat) (l' : List Nat) (w : World) (h : Sl w a n cap l) (h' : Sl w a' n' cap' l') (hn : n ≤ 1099511627776) :
    Calls Tryd.prog 75 #[.slice a n cap, .slice a' n' cap'] w fun e w' => e = .returned (.bool (decide (l = l'))) ∧ Below w.heap.size w w' := by
  have hp : ∀ p : Nat, decide (l = l') = sameB p l p l' := fun p => by simp [sameB]
  by_cases e2 : n = n'
  · subst e2
    rcases least (fun i => nth l i = nth l' i) n with hall | ⟨j, h1, h2, h3⟩
    · exact Equal0 a n cap l a' cap' l' w h h' hn n _ (Nat.le_refl _) hall (Or.inl ⟨rfl, (hp 0).trans (sameB_all h.len h'.len hall)⟩)
    · exact Equal0 a n cap l a' cap' l' w h h' hn j _ (by omega) h3 (Or.inr ⟨h1, h2, (hp 0).trans (sameB_at j h2)⟩)
  · have HB : Hid (decide (l = l') = false) := (hp 0).trans (sameB_len (by rw [h.len, h'.len]; exact e2))
    have s1 : ((n : Int) != (n' : Int)) = true := by simp; omega
    clear e2 hp
    go_enter Tryd.func75, Tryd.ntmps75
    go_wp2
    go_ret
    exact ⟨by rw [HB.out]; rfl, Below.refl _ _⟩
theorem ppoly_Same (p : Nat) (a : Option Addr) (n cap : Nat) (l : List Nat) (q : Nat) (a' : Option Addr) (n' cap' : Nat) (l' : List Nat) (w : World) (h : Sl w a n cap l) (h' : Sl w a' n' cap' l') (hn : n ≤ 1099511627776) :
    Calls Tryd.prog 37 #[.agg #[.int .u32 p, .slice a n cap], .agg #[.int .u32 q, .slice a' n' cap']] w fun e w' => e = .returned (.bool (sameB p l q l')) ∧ Below w.heap.size w w' := by
  have hbx := boxes2 w #[.int .u32 (p : Int), .slice a n cap] #[.int .u32 (q : Int), .slice a' n' cap'] 25 25
  have hb0 := hbx.below
  have hs1 := hb0.size
  have h1 := h.mono hb0
  have h1' := h'.mono hb0
  by_cases e : p = q
  · subst e
    have HB : Hid (sameB p l p l' = decide (l = l')) := by simp [sameB, Hid]
    go_enter Tryd.func37, Tryd.ntmps37
    go_wp2_with fail
    refine (slices_Equal a n cap l a' n' cap' l' _ h1 h1' hn).mono ?_
    rintro e w' ⟨rfl, hb2⟩
    go_wp2
    go_ret
    exact ⟨by rw [HB.out]; rfl, hb0.trans (hb2.mono hs1)⟩
  · have HB : Hid (sameB p l q l' = false) := sameB_ne e
    have e' : ((p : Int) == (q : Int)) = false := by simp; omega
    clear e
    go_enter Tryd.func37, Tryd.ntmps37
    go_wp2
    go_ret
    exact ⟨by rw [HB.out]; rfl, hb0⟩
end Go.Proofs.YtcefhnmhcapccaaDoor
