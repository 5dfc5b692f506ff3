/- Contract of ppoly.divides. -/
import Derived.Test.YtcefhnmhcapccaaDoorW18
open Alg Go Go.RowKit
namespace Alg
/-- is the rest of g by f nothing? -/
def dividesB (p : Nat) (f g : List Nat) : Bool := if f = [] then decide (g = []) else decide (trim (divL p g f).2 = [])
theorem deg_nil {l : List Nat} {n : Nat} (h : l.length = n) : decide (l = []) = decide ((n : Int) - 1 < 0) := by
  subst h
  cases l with
  | nil => rfl
  | cons a t => simp
end Alg
namespace Go.Proofs.YtcefhnmhcapccaaDoor
open Go.RowKit
set_option maxRecDepth 100000 in
theorem ppoly_divides (p : Nat) (fa : Option Addr) (fn fcap : Nat) (fl : List Nat) (ga : Option Addr) (gn gcap : Nat) (gl : List Nat) (w : World) (hf : Sl w fa fn fcap fl) (hg : Sl w ga gn gcap gl)
    (hp0 : 1 < p) (hp : p < 4294967296) (hfn : fn ≤ 1099511627776) (hgn : gn ≤ 1099511627776) (cf : Canon p fl) :
    Calls Tryd.prog 68 #[.agg #[.int .u32 p, .slice fa fn fcap], .agg #[.int .u32 p, .slice ga gn gcap]] w fun e w' => e = .returned (.bool (dividesB p fl gl)) ∧ Below w.heap.size w w' := by
  have hbx := boxes2 w #[.int .u32 (p : Int), .slice fa fn fcap] #[.int .u32 (p : Int), .slice ga gn gcap] 25 25
  have e1 := hf.len
  have e2 := hg.len
  have hf1 := hf.mono hbx.below
  have hg1 := hg.mono hbx.below
  by_cases h0 : fn = 0
  · have hfl : fl = [] := List.length_eq_zero_iff.1 (by omega)
    subst hfl
    subst h0
    have HB : Hid (dividesB p [] gl = decide ((gn : Int) - 1 < 0)) := by
      show (if _ then _ else _) = _
      rw [if_pos rfl]
      exact deg_nil e2
    go_enter Tryd.func68, Tryd.ntmps68
    go_wp2_with fail
    refine (ppoly_Div0 p ga gn gcap fa fcap p _).mono ?_
    rintro e w1 ⟨rfl, hb1⟩
    have hx1 := hbx.mono hb1
    have hy1 := boxes2 w1 #[.int .u32 0, .slice none 0 0] #[.int .u32 0, .slice none 0 0] 25 25
    have hx2 := hx1.mono hy1.below
    obtain ⟨d0, d1⟩ := hx2.at1 rfl
    go_wp2_with fail
    refine (ppoly_Deg p ga gn gcap _ (by omega)).mono ?_
    rintro e w' ⟨rfl, hb2⟩
    have hx3 := hx2.mono hb2
    go_wp2
    go_ret
    exact ⟨by rw [HB.out]; rfl, hx3.below⟩
  · have hfl : ¬ fl = [] := fun h => by rw [h] at e1; simp at e1; omega
    have hlead : nth fl (fn - 1) ≠ 0 := by
      rcases cf.top with h1 | h1
      · exact absurd h1 hfl
      · rw [← e1]; exact h1
    have HB : Hid (∀ n : Nat, (trim (divL p gl fl).2).length = n → dividesB p fl gl = decide ((n : Int) - 1 < 0)) := by
      intro n hn
      show (if _ then _ else _) = _
      rw [if_neg hfl]
      exact deg_nil hn
    go_enter Tryd.func68, Tryd.ntmps68
    go_wp2_with fail
    refine (ppoly_DivMod p ga gn gcap gl fa fn fcap fl p _ hg1 hf1 (by omega) hlead hp0 hp hgn hfn).mono ?_
    rintro e w1 ⟨a1, n1, cap1, a2, n2, cap2, rfl, _, hr1, hb1, _, _⟩
    have hx1 := hbx.mono hb1
    have hy1 := boxes2 w1 #[.int .u32 (p : Int), .slice a1 n1 cap1] #[.int .u32 (p : Int), .slice a2 n2 cap2] 25 25
    have hx2 := hx1.mono hy1.below
    have e3 := hr1.len
    have HB2 := Alg.hid (HB.out n2 e3)
    have hr2 := hr1.le
    have hr3 := hr1.cap
    have hn2 : n2 ≤ 9223372036854775807 := by omega
    obtain ⟨d0, d1⟩ := hy1.at1 rfl
    go_wp2_with fail
    refine (ppoly_Deg p a2 n2 cap2 _ hn2).mono ?_
    rintro e w' ⟨rfl, hb2⟩
    have hx3 := hx2.mono hb2
    go_wp2
    go_ret
    exact ⟨by rw [HB2.out]; rfl, hx3.below⟩
end Go.Proofs.YtcefhnmhcapccaaDoor
