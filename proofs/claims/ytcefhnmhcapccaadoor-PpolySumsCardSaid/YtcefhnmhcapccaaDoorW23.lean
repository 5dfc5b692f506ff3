/- Contract of ppoly.Right, given modp.Field's at this prime. -/
import Derived.Test.YtcefhnmhcapccaaDoorW22
open Alg Go Go.RowKit
namespace Go.Proofs.YtcefhnmhcapccaaDoor
open Go.RowKit
/-- modp.Field answers as the document says, at p -/
def FieldC (p : Nat) : Prop := ∀ w : World, Calls Tryd.prog 72 #[.int .u32 (p : Int)] w fun e w' => e = .returned (.int .i64 (errP p)) ∧ Below w.heap.size w w'
theorem ppoly_Right (p : Nat) (hF : FieldC p) (a : Option Addr) (n cap : Nat) (l : List Nat) (w : World) (h : Sl w a n cap l) (hn : n ≤ 1099511627776) :
    Calls Tryd.prog 35 #[.agg #[.int .u32 p, .slice a n cap]] w fun e w' => e = .returned (.bool (rightB p l)) ∧ Below w.heap.size w w' := by
  have hbx := boxes1 w #[.int .u32 (p : Int), .slice a n cap] 25
  have hl := h.len
  by_cases hP : IsPr p ∧ p < 2147483648
  · have he := errP_yes hP.1 hP.2
    have hpp : 0 < p := by have := hP.1.1; omega
    by_cases hall : ∀ i, i < n → nth l i < p
    · have HA := Alg.hid hall
      by_cases hn0 : n = 0
      · have HB : Hid (rightB p l = true) := rightB_true.2 ⟨(canon_iff hl hpp).2 ⟨hall, Or.inl hn0⟩, hP⟩
        subst hn0
        go_enter Tryd.func35, Tryd.ntmps35
        go_wp2_with fail
        refine (hF _).mono ?_
        rw [he]
        rintro e w1 ⟨rfl, hb1⟩
        have hx1 := hbx.mono hb1
        have h1 := h.mono hx1.below
        have d0 : w1.cell? ⟨w.heap.size, 0, none⟩ = some (.int .u32 (p : Int)) := hx1.cell' 0 0 _ _ rfl rfl
        have d1 : w1.cell? ⟨w.heap.size, 1, none⟩ = some (.slice a 0 cap) := hx1.cell' 0 1 _ _ rfl rfl
        go_wp2_with fail
        refine (ContainsFunc0 p w.heap.size a 0 cap l _ d0 h1 hn false (Or.inl ⟨rfl, HA.out⟩)).mono ?_
        rintro e w' ⟨rfl, rfl⟩
        go_wp2
        go_ret
        exact ⟨by rw [HB.out]; rfl, hx1.below⟩
      · rcases h.rd with h0 | ⟨b, off, rfl, hc⟩
        · omega
        have hkm : n - 1 < n := by omega
        have hcn := hc (n - 1) hkm
        have hnb : ((n : Int) == 0) = false := by simp; omega
        have s1 : (1 : Int) ≤ (n : Int) := by omega
        clear hc
        obtain ⟨bv, hbv⟩ : ∃ bv, bv = rightB p l := ⟨_, rfl⟩
        have hz : ((nth l (n - 1) : Int) != 0) = bv := by
          rw [hbv]
          by_cases hz : nth l (n - 1) = 0
          · have : rightB p l = false := by
              cases hr : rightB p l with
              | false => rfl
              | true => rcases ((canon_iff hl hpp).1 (rightB_true.1 hr).1).2 with h2 | h2 <;> omega
            rw [this]; simp [hz]
          · rw [rightB_true.2 ⟨(canon_iff hl hpp).2 ⟨hall, Or.inr hz⟩, hP⟩]; simp [hz]
        rw [← hbv]
        clear hall hbv
        go_enter Tryd.func35, Tryd.ntmps35
        go_wp2_with fail
        refine (hF _).mono ?_
        rw [he]
        rintro e w1 ⟨rfl, hb1⟩
        have hx1 := hbx.mono hb1
        have h1 := h.mono hx1.below
        have d0 : w1.cell? ⟨w.heap.size, 0, none⟩ = some (.int .u32 (p : Int)) := hx1.cell' 0 0 _ _ rfl rfl
        have d1 : w1.cell? ⟨w.heap.size, 1, none⟩ = some (.slice (some ⟨b, off, none⟩) n cap) := hx1.cell' 0 1 _ _ rfl rfl
        have c1 : w1.cell? ⟨b, off + (n - 1), none⟩ = some (.int .u32 (nth l (n - 1) : Nat)) := (hx1.below.cell (p := ⟨b, off + (n - 1), none⟩) (cell_lt hcn)).trans hcn
        go_wp2_with fail
        refine (ContainsFunc0 p w.heap.size (some ⟨b, off, none⟩) n cap l _ d0 h1 hn false (Or.inl ⟨rfl, HA.out⟩)).mono ?_
        rintro e w' ⟨rfl, rfl⟩
        go_wp2
        go_ret
        exact ⟨by rw [← hz]; rfl, hx1.below⟩
    · have HB : Hid (rightB p l = false) := by
        show rightB p l = false
        cases hr : rightB p l with
        | false => rfl
        | true => exact absurd ((canon_iff hl hpp).1 (rightB_true.1 hr).1).1 hall
      have hex : ∃ j, j < n ∧ p ≤ nth l j := by
        rcases least (fun i => nth l i < p) n with h2 | ⟨j, h2, h3, _⟩
        · exact absurd h2 hall
        · exact ⟨j, h2, by omega⟩
      have HX := Alg.hid hex
      clear hall hex
      go_enter Tryd.func35, Tryd.ntmps35
      go_wp2_with fail
      refine (hF _).mono ?_
      rw [he]
      rintro e w1 ⟨rfl, hb1⟩
      have hx1 := hbx.mono hb1
      have h1 := h.mono hx1.below
      have d0 : w1.cell? ⟨w.heap.size, 0, none⟩ = some (.int .u32 (p : Int)) := hx1.cell' 0 0 _ _ rfl rfl
      have d1 : w1.cell? ⟨w.heap.size, 1, none⟩ = some (.slice a n cap) := hx1.cell' 0 1 _ _ rfl rfl
      go_wp2_with fail
      refine (ContainsFunc0 p w.heap.size a n cap l _ d0 h1 hn true (Or.inr ⟨rfl, HX.out⟩)).mono ?_
      rintro e w' ⟨rfl, rfl⟩
      go_wp2
      go_ret
      exact ⟨by rw [HB.out]; rfl, hx1.below⟩
  · have he := errP_no hP
    have HB : Hid (rightB p l = false) := by
      show rightB p l = false
      cases hr : rightB p l with
      | false => rfl
      | true => exact absurd (rightB_true.1 hr).2 hP
    go_enter Tryd.func35, Tryd.ntmps35
    go_wp2_with fail
    refine (hF _).mono ?_
    rw [he]
    rintro e w1 ⟨rfl, hb1⟩
    have hx1 := hbx.mono hb1
    go_wp2
    go_ret
    exact ⟨by rw [HB.out]; rfl, hx1.below⟩
end Go.Proofs.YtcefhnmhcapccaaDoor
