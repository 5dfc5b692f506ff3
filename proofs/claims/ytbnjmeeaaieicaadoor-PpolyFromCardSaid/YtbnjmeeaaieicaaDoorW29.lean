/- Contract of ppoly.HoldsGcd. The gcd with its cofactors is one by both words of it. -/
import Derived.Test.YtbnjmeeaaieicaaDoorW27
import Derived.Test.YtbnjmeeaaieicaaDoorE1
section
open Alg Go Go.RowKit
namespace Alg
/-- is it a gcd with its cofactors? as the program asks -/
noncomputable def holdsB (p : Nat) (f : List Nat) (q : Nat) (g : List Nat) (pg : Nat) (G : List Nat) (pu : Nat) (U : List Nat) (pv : Nat) (V : List Nat) : Bool :=
  decide (q = p) && decide (pg = p) && decide (pu = p) && decide (pv = p) && rightB p f && rightB p g && rightB p G && rightB p U && rightB p V && (decide (G = []) || decide (nth G (G.length - 1) = 1)) && dividesB p G f && dividesB p G g && sameB p (addL p (mulL p U f) (mulL p V g)) p G
theorem bne_no {a b : Nat} (h : a = b) : ((a : Int) != (b : Int)) = false := by subst h; simp
theorem bne_yes {a b : Nat} (h : a ≠ b) : ((a : Int) != (b : Int)) = true := by simp; omega
end Alg
namespace Go.Proofs.YtbnjmeeaaieicaaDoor
open Go.RowKit
set_option maxRecDepth 100000 in
set_option maxHeartbeats 8000000 in
theorem ppoly_HoldsGcd (p : Nat) (fa : Option Addr) (fn fcap : Nat) (fl : List Nat) (q : Nat) (ga : Option Addr) (gn gcap : Nat) (gl : List Nat) (pg : Nat) (a1 : Option Addr) (n1 c1 : Nat) (G : List Nat) (pu : Nat) (a2 : Option Addr) (n2 c2 : Nat) (U : List Nat) (pv : Nat) (a3 : Option Addr) (n3 c3 : Nat) (V : List Nat) (w : World)
    (hF : FieldC w p) (hf : Sl w fa fn fcap fl) (hg : Sl w ga gn gcap gl) (h1 : Sl w a1 n1 c1 G) (h2 : Sl w a2 n2 c2 U) (h3 : Sl w a3 n3 c3 V)
    (hp : p < 4294967296) (hfn : fn ≤ 274877906944) (hgn : gn ≤ 274877906944) (hn1 : n1 ≤ 274877906944) (hn2 : n2 ≤ 274877906944) (hn3 : n3 ≤ 274877906944) :
    Calls Tryd.prog 82 #[.agg #[.int .u32 (p : Int), .slice fa fn fcap], .agg #[.int .u32 (q : Int), .slice ga gn gcap], .agg #[.int .u32 (pg : Int), .slice a1 n1 c1, .int .u32 (pu : Int), .slice a2 n2 c2, .int .u32 (pv : Int), .slice a3 n3 c3]] w fun e w' => e = .returned (.bool (holdsB p fl q gl pg G pu U pv V)) ∧ Below w.heap.size w w' := by
  have hbx := boxes4 w #[.int .u32 (p : Int), .slice fa fn fcap] #[.int .u32 (q : Int), .slice ga gn gcap] #[.int .u32 (pg : Int), .slice a1 n1 c1, .int .u32 (pu : Int), .slice a2 n2 c2, .int .u32 (pv : Int), .slice a3 n3 c3] #[.int .u32 (p : Int), .slice fa fn fcap, .int .u32 (q : Int), .slice ga gn gcap, .int .u32 (pg : Int), .slice a1 n1 c1, .int .u32 (pu : Int), .slice a2 n2 c2, .int .u32 (pv : Int), .slice a3 n3 c3] 47 47 83 47
  have HF := Alg.hid hF
  clear hF
  go_enter Tryd.func82, Tryd.ntmps82
  go_wp2
  generalize hW0 : ((((w.alloc (.cells #[.int .u32 (p : Int), .slice fa fn fcap] 47)).alloc (.cells #[.int .u32 (q : Int), .slice ga gn gcap] 47)).alloc (.cells #[.int .u32 (pg : Int), .slice a1 n1 c1, .int .u32 (pu : Int), .slice a2 n2 c2, .int .u32 (pv : Int), .slice a3 n3 c3] 83)).alloc (.cells #[.int .u32 (p : Int), .slice fa fn fcap, .int .u32 (q : Int), .slice ga gn gcap, .int .u32 (pg : Int), .slice a1 n1 c1, .int .u32 (pu : Int), .slice a2 n2 c2, .int .u32 (pv : Int), .slice a3 n3 c3] 47)) = W0 at hbx ⊢
  clear hW0
  go_loopw [19] (fun v wr => Boxes w wr [#[.int .u32 (p : Int), .slice fa fn fcap], #[.int .u32 (q : Int), .slice ga gn gcap], #[.int .u32 (pg : Int), .slice a1 n1 c1, .int .u32 (pu : Int), .slice a2 n2 c2, .int .u32 (pv : Int), .slice a3 n3 c3], #[.int .u32 (p : Int), .slice fa fn fcap, .int .u32 (q : Int), .slice ga gn gcap, .int .u32 (pg : Int), .slice a1 n1 c1, .int .u32 (pu : Int), .slice a2 n2 c2, .int .u32 (pv : Int), .slice a3 n3 c3]] ∧ ((v = .int .i64 0) ∨ (v = .int .i64 1 ∧ (p = p ∧ rightB p fl = true)) ∨ (v = .int .i64 2 ∧ (p = p ∧ rightB p fl = true) ∧ (p = q ∧ rightB p gl = true)) ∨ (v = .int .i64 3 ∧ (p = p ∧ rightB p fl = true) ∧ (p = q ∧ rightB p gl = true) ∧ (p = pg ∧ rightB p G = true)) ∨ (v = .int .i64 4 ∧ (p = p ∧ rightB p fl = true) ∧ (p = q ∧ rightB p gl = true) ∧ (p = pg ∧ rightB p G = true) ∧ (p = pu ∧ rightB p U = true)) ∨ (v = .int .i64 5 ∧ (p = p ∧ rightB p fl = true) ∧ (p = q ∧ rightB p gl = true) ∧ (p = pg ∧ rightB p G = true) ∧ (p = pu ∧ rightB p U = true) ∧ (p = pv ∧ rightB p V = true)))) (fun v _ => 5 - (intOf v).toNat)
  case atStart => exact ⟨hbx, Or.inl rfl⟩
  case round =>
    clear hbx
    obtain ⟨hB, hv⟩ := hrel
    have hsz : w.heap.size + 4 ≤ wr.heap.size := hB.size
    rcases hv with rfl | ⟨rfl, ⟨_, r0⟩⟩ | ⟨rfl, ⟨_, r0⟩, ⟨rfl, r1⟩⟩ | ⟨rfl, ⟨_, r0⟩, ⟨rfl, r1⟩, ⟨rfl, r2⟩⟩ | ⟨rfl, ⟨_, r0⟩, ⟨rfl, r1⟩, ⟨rfl, r2⟩, ⟨rfl, r3⟩⟩ | ⟨rfl, ⟨_, r0⟩, ⟨rfl, r1⟩, ⟨rfl, r2⟩, ⟨rfl, r3⟩, ⟨rfl, r4⟩⟩
    · have d0 : wr.cell? ⟨w.heap.size + 1 + 1 + 1, 0, none⟩ = some (.int .u32 (p : Int)) := hB.cell' 3 0 _ _ rfl rfl
      have d1 : wr.cell? ⟨w.heap.size + 1 + 1 + 1, 1, none⟩ = some (.slice fa fn fcap) := hB.cell' 3 1 _ _ rfl rfl
      have hB1 := hB.alloc_any (.cells #[.int .u32 (p : Int), .slice fa fn fcap] 47)
      have d2 : (wr.alloc (.cells #[.int .u32 (p : Int), .slice fa fn fcap] 47)).cell? ⟨w.heap.size, 0, none⟩ = some (.int .u32 (p : Int)) := hB1.cell' 0 0 _ _ rfl rfl
      have hE := bne_no (rfl : p = p)
      have hS := hf.mono hB1.below
      go_wp2_with fail
      refine (ppoly_Right p fa fn fcap fl _ (HF.out.mono hB1.below) hS (by omega)).mono ?_
      rintro e w1 ⟨rfl, hb1⟩
      have hB2 := hB1.mono hb1
      cases hr : rightB p fl with
      | false =>
        have HV : Hid (holdsB p fl q gl pg G pu U pv V = false) := by show _ = _; simp [holdsB, hr]
        go_wp2
        try rw [Exit.noGoto_ret]
        go_ret
        exact ⟨by rw [HV.out]; rfl, hB2.below⟩
      | true =>
        have HR := Alg.hid hr
        clear hr d0 d1 d2
        go_wp2
        go_roundw
        case rel => exact ⟨hB2, Or.inr (Or.inl ⟨rfl, ⟨by trivial, HR.out⟩⟩)⟩
        case measure => simp [intOf]
    · have d0 : wr.cell? ⟨w.heap.size + 1 + 1 + 1, 2, none⟩ = some (.int .u32 (q : Int)) := hB.cell' 3 2 _ _ rfl rfl
      have d1 : wr.cell? ⟨w.heap.size + 1 + 1 + 1, 3, none⟩ = some (.slice ga gn gcap) := hB.cell' 3 3 _ _ rfl rfl
      have hB1 := hB.alloc_any (.cells #[.int .u32 (q : Int), .slice ga gn gcap] 47)
      have d2 : (wr.alloc (.cells #[.int .u32 (q : Int), .slice ga gn gcap] 47)).cell? ⟨w.heap.size, 0, none⟩ = some (.int .u32 (p : Int)) := hB1.cell' 0 0 _ _ rfl rfl
      by_cases hE0 : p = q
      · subst hE0
        have hE := bne_no (rfl : p = p)
        have hS := hg.mono hB1.below
        go_wp2_with fail
        refine (ppoly_Right p ga gn gcap gl _ (HF.out.mono hB1.below) hS (by omega)).mono ?_
        rintro e w1 ⟨rfl, hb1⟩
        have hB2 := hB1.mono hb1
        cases hr : rightB p gl with
        | false =>
          have HV : Hid (holdsB p fl p gl pg G pu U pv V = false) := by show _ = _; simp [holdsB, hr]
          go_wp2
          try rw [Exit.noGoto_ret]
          go_ret
          exact ⟨by rw [HV.out]; rfl, hB2.below⟩
        | true =>
          have HR := Alg.hid hr
          clear hr d0 d1 d2
          go_wp2
          go_roundw
          case rel => exact ⟨hB2, Or.inr (Or.inr (Or.inl ⟨rfl, ⟨by trivial, r0⟩, ⟨by trivial, HR.out⟩⟩))⟩
          case measure => simp [intOf]
      · have hE := bne_yes (fun e => hE0 e.symm : q ≠ p)
        have HV : Hid (holdsB p fl q gl pg G pu U pv V = false) := by
          have hE1 : ¬ q = p := fun e => hE0 e.symm
          show _ = _
          simp [holdsB, hE1]
        clear hE0
        go_wp2
        try rw [Exit.noGoto_ret]
        go_ret
        exact ⟨by rw [HV.out]; rfl, hB1.below⟩
    · have d0 : wr.cell? ⟨w.heap.size + 1 + 1 + 1, 4, none⟩ = some (.int .u32 (pg : Int)) := hB.cell' 3 4 _ _ rfl rfl
      have d1 : wr.cell? ⟨w.heap.size + 1 + 1 + 1, 5, none⟩ = some (.slice a1 n1 c1) := hB.cell' 3 5 _ _ rfl rfl
      have hB1 := hB.alloc_any (.cells #[.int .u32 (pg : Int), .slice a1 n1 c1] 47)
      have d2 : (wr.alloc (.cells #[.int .u32 (pg : Int), .slice a1 n1 c1] 47)).cell? ⟨w.heap.size, 0, none⟩ = some (.int .u32 (p : Int)) := hB1.cell' 0 0 _ _ rfl rfl
      by_cases hE0 : p = pg
      · subst hE0
        have hE := bne_no (rfl : p = p)
        have hS := h1.mono hB1.below
        go_wp2_with fail
        refine (ppoly_Right p a1 n1 c1 G _ (HF.out.mono hB1.below) hS (by omega)).mono ?_
        rintro e w1 ⟨rfl, hb1⟩
        have hB2 := hB1.mono hb1
        cases hr : rightB p G with
        | false =>
          have HV : Hid (holdsB p fl p gl p G pu U pv V = false) := by show _ = _; simp [holdsB, hr]
          go_wp2
          try rw [Exit.noGoto_ret]
          go_ret
          exact ⟨by rw [HV.out]; rfl, hB2.below⟩
        | true =>
          have HR := Alg.hid hr
          clear hr d0 d1 d2
          go_wp2
          go_roundw
          case rel => exact ⟨hB2, Or.inr (Or.inr (Or.inr (Or.inl ⟨rfl, ⟨by trivial, r0⟩, ⟨by trivial, r1⟩, ⟨by trivial, HR.out⟩⟩)))⟩
          case measure => simp [intOf]
      · have hE := bne_yes (fun e => hE0 e.symm : pg ≠ p)
        have HV : Hid (holdsB p fl p gl pg G pu U pv V = false) := by
          have hE1 : ¬ pg = p := fun e => hE0 e.symm
          show _ = _
          simp [holdsB, hE1]
        clear hE0
        go_wp2
        try rw [Exit.noGoto_ret]
        go_ret
        exact ⟨by rw [HV.out]; rfl, hB1.below⟩
    · have d0 : wr.cell? ⟨w.heap.size + 1 + 1 + 1, 6, none⟩ = some (.int .u32 (pu : Int)) := hB.cell' 3 6 _ _ rfl rfl
      have d1 : wr.cell? ⟨w.heap.size + 1 + 1 + 1, 7, none⟩ = some (.slice a2 n2 c2) := hB.cell' 3 7 _ _ rfl rfl
      have hB1 := hB.alloc_any (.cells #[.int .u32 (pu : Int), .slice a2 n2 c2] 47)
      have d2 : (wr.alloc (.cells #[.int .u32 (pu : Int), .slice a2 n2 c2] 47)).cell? ⟨w.heap.size, 0, none⟩ = some (.int .u32 (p : Int)) := hB1.cell' 0 0 _ _ rfl rfl
      by_cases hE0 : p = pu
      · subst hE0
        have hE := bne_no (rfl : p = p)
        have hS := h2.mono hB1.below
        go_wp2_with fail
        refine (ppoly_Right p a2 n2 c2 U _ (HF.out.mono hB1.below) hS (by omega)).mono ?_
        rintro e w1 ⟨rfl, hb1⟩
        have hB2 := hB1.mono hb1
        cases hr : rightB p U with
        | false =>
          have HV : Hid (holdsB p fl p gl p G p U pv V = false) := by show _ = _; simp [holdsB, hr]
          go_wp2
          try rw [Exit.noGoto_ret]
          go_ret
          exact ⟨by rw [HV.out]; rfl, hB2.below⟩
        | true =>
          have HR := Alg.hid hr
          clear hr d0 d1 d2
          go_wp2
          go_roundw
          case rel => exact ⟨hB2, Or.inr (Or.inr (Or.inr (Or.inr (Or.inl ⟨rfl, ⟨by trivial, r0⟩, ⟨by trivial, r1⟩, ⟨by trivial, r2⟩, ⟨by trivial, HR.out⟩⟩))))⟩
          case measure => simp [intOf]
      · have hE := bne_yes (fun e => hE0 e.symm : pu ≠ p)
        have HV : Hid (holdsB p fl p gl p G pu U pv V = false) := by
          have hE1 : ¬ pu = p := fun e => hE0 e.symm
          show _ = _
          simp [holdsB, hE1]
        clear hE0
        go_wp2
        try rw [Exit.noGoto_ret]
        go_ret
        exact ⟨by rw [HV.out]; rfl, hB1.below⟩
    · have d0 : wr.cell? ⟨w.heap.size + 1 + 1 + 1, 8, none⟩ = some (.int .u32 (pv : Int)) := hB.cell' 3 8 _ _ rfl rfl
      have d1 : wr.cell? ⟨w.heap.size + 1 + 1 + 1, 9, none⟩ = some (.slice a3 n3 c3) := hB.cell' 3 9 _ _ rfl rfl
      have hB1 := hB.alloc_any (.cells #[.int .u32 (pv : Int), .slice a3 n3 c3] 47)
      have d2 : (wr.alloc (.cells #[.int .u32 (pv : Int), .slice a3 n3 c3] 47)).cell? ⟨w.heap.size, 0, none⟩ = some (.int .u32 (p : Int)) := hB1.cell' 0 0 _ _ rfl rfl
      by_cases hE0 : p = pv
      · subst hE0
        have hE := bne_no (rfl : p = p)
        have hS := h3.mono hB1.below
        go_wp2_with fail
        refine (ppoly_Right p a3 n3 c3 V _ (HF.out.mono hB1.below) hS (by omega)).mono ?_
        rintro e w1 ⟨rfl, hb1⟩
        have hB2 := hB1.mono hb1
        cases hr : rightB p V with
        | false =>
          have HV : Hid (holdsB p fl p gl p G p U p V = false) := by show _ = _; simp [holdsB, hr]
          go_wp2
          try rw [Exit.noGoto_ret]
          go_ret
          exact ⟨by rw [HV.out]; rfl, hB2.below⟩
        | true =>
          have HR := Alg.hid hr
          clear hr d0 d1 d2
          go_wp2
          go_roundw
          case rel => exact ⟨hB2, Or.inr (Or.inr (Or.inr (Or.inr (Or.inr (⟨rfl, ⟨by trivial, r0⟩, ⟨by trivial, r1⟩, ⟨by trivial, r2⟩, ⟨by trivial, r3⟩, ⟨by trivial, HR.out⟩⟩)))))⟩
          case measure => simp [intOf]
      · have hE := bne_yes (fun e => hE0 e.symm : pv ≠ p)
        have HV : Hid (holdsB p fl p gl p G p U pv V = false) := by
          have hE1 : ¬ pv = p := fun e => hE0 e.symm
          show _ = _
          simp [holdsB, hE1]
        clear hE0
        go_wp2
        try rw [Exit.noGoto_ret]
        go_ret
        exact ⟨by rw [HV.out]; rfl, hB1.below⟩
    · have K : Hid (∀ W, Boxes w W [#[.int .u32 (p : Int), .slice fa fn fcap], #[.int .u32 (p : Int), .slice ga gn gcap], (tri p a1 n1 c1 a2 n2 c2 a3 n3 c3), #[.int .u32 (p : Int), .slice fa fn fcap, .int .u32 (p : Int), .slice ga gn gcap, .int .u32 (p : Int), .slice a1 n1 c1, .int .u32 (p : Int), .slice a2 n2 c2, .int .u32 (p : Int), .slice a3 n3 c3]] → W.cell? ⟨w.heap.size, 0, none⟩ = some (.int .u32 (p : Int)) ∧ W.cell? ⟨w.heap.size, 1, none⟩ = some (.slice fa fn fcap) ∧ W.cell? ⟨w.heap.size + 1, 0, none⟩ = some (.int .u32 (p : Int)) ∧ W.cell? ⟨w.heap.size + 1, 1, none⟩ = some (.slice ga gn gcap) ∧ W.cell? ⟨w.heap.size + 1 + 1, 0, none⟩ = some (.int .u32 (p : Int)) ∧ W.cell? ⟨w.heap.size + 1 + 1, 1, none⟩ = some (.slice a1 n1 c1) ∧ W.cell? ⟨w.heap.size + 1 + 1, 2, none⟩ = some (.int .u32 (p : Int)) ∧ W.cell? ⟨w.heap.size + 1 + 1, 3, none⟩ = some (.slice a2 n2 c2) ∧ W.cell? ⟨w.heap.size + 1 + 1, 4, none⟩ = some (.int .u32 (p : Int)) ∧ W.cell? ⟨w.heap.size + 1 + 1, 5, none⟩ = some (.slice a3 n3 c3) ∧ Boxes w W [#[.int .u32 (p : Int), .slice fa fn fcap], #[.int .u32 (p : Int), .slice ga gn gcap], (tri p a1 n1 c1 a2 n2 c2 a3 n3 c3), #[.int .u32 (p : Int), .slice fa fn fcap, .int .u32 (p : Int), .slice ga gn gcap, .int .u32 (p : Int), .slice a1 n1 c1, .int .u32 (p : Int), .slice a2 n2 c2, .int .u32 (p : Int), .slice a3 n3 c3]]) :=
        fun W h => ⟨h.cell' 0 0 _ _ rfl rfl, h.cell' 0 1 _ _ rfl rfl, h.cell' 1 0 _ _ rfl rfl, h.cell' 1 1 _ _ rfl rfl, h.cell' 2 0 _ _ rfl rfl, h.cell' 2 1 _ _ rfl rfl, h.cell' 2 2 _ _ rfl rfl, h.cell' 2 3 _ _ rfl rfl, h.cell' 2 4 _ _ rfl rfl, h.cell' 2 5 _ _ rfl rfl, h⟩
      have cG := (rightB_true.1 r2).1
      have hp1 := (rightB_true.1 r2).2.1.1
      have e1 := h1.len
      clear HF hsz
      obtain ⟨d0, d1, d2, d3, d4, d5, d6, d7, d8, d9, _⟩ := K.out wr hB
      go_wp2_with fail
      refine (ppoly_Deg p a1 n1 c1 wr (by omega)).mono ?_
      rintro e w1 ⟨rfl, hb1⟩
      have hB1 := hB.mono hb1
      clear d0 d1 d2 d3 d4 d5 d6 d7 d8 d9
      obtain ⟨d0, d1, d2, d3, d4, d5, d6, d7, d8, d9, _⟩ := K.out w1 hB1
      by_cases hn0 : n1 = 0
      · have HL : Hid ((decide (G = []) || decide (nth G (G.length - 1) = 1)) = true) := by
          have : G = [] := List.length_eq_zero_iff.1 (by omega)
          show _ = _
          simp [this]
        have hm : ¬ (0 : Int) ≤ (n1 : Int) - 1 := by omega
        clear hn0
        go_wp2_with fail
        refine (ppoly_divides p a1 n1 c1 G fa fn fcap fl w1 (h1.mono hB1.below) (hf.mono hB1.below) hp1 hp (by omega) (by omega) cG).mono ?_
        rintro e w3 ⟨rfl, hb3⟩
        have hB3 := hB1.mono hb3
        clear d0 d1 d2 d3 d4 d5 d6 d7 d8 d9
        cases hd : dividesB p G fl with
        | false =>
          have HV : Hid (holdsB p fl p gl p G p U p V = false) := by show _ = _; simp [holdsB, hd]
          go_wp2
          try rw [Exit.noGoto_ret]
          go_ret
          exact ⟨by rw [HV.out]; rfl, hB3.below⟩
        | true =>
          have HD := Alg.hid hd
          clear hd
          obtain ⟨d0, d1, d2, d3, d4, d5, d6, d7, d8, d9, _⟩ := K.out w3 hB3
          go_wp2_with fail
          refine (ppoly_divides p a1 n1 c1 G ga gn gcap gl w3 (h1.mono hB3.below) (hg.mono hB3.below) hp1 hp (by omega) (by omega) cG).mono ?_
          rintro e w4 ⟨rfl, hb4⟩
          have hB4 := hB3.mono hb4
          clear d0 d1 d2 d3 d4 d5 d6 d7 d8 d9
          cases hd2 : dividesB p G gl with
          | false =>
            have HV : Hid (holdsB p fl p gl p G p U p V = false) := by show _ = _; simp [holdsB, hd2]
            go_wp2
            try rw [Exit.noGoto_ret]
            go_ret
            exact ⟨by rw [HV.out]; rfl, hB4.below⟩
          | true =>
            have HD2 := Alg.hid hd2
            clear hd2
            have hB5 := hB4.drew
            have hU5 := (h2.mono hB4.below).drew
            have hf5 := (hf.mono hB4.below).drew
            have hV5 := (h3.mono hB4.below).drew
            have hg5 := (hg.mono hB4.below).drew
            have hG5 := (h1.mono hB4.below).drew
            have HM1 := Alg.hid (mulL_len p U fl)
            have HM2 := Alg.hid (mulL_len p V gl)
            have eU := h2.len
            have eV := h3.len
            have ef := hf.len
            have eg := hg.len
            obtain ⟨d0, d1, d2, d3, d4, d5, d6, d7, d8, d9, _⟩ := K.out w4 hB4
            have hp0 : 0 < p := by omega
            go_wp2
            go_region_held3 (fun W => W.cell? ⟨w.heap.size, 0, none⟩ = some (.int .u32 (p : Int)) ∧ W.cell? ⟨w.heap.size, 1, none⟩ = some (.slice fa fn fcap) ∧ W.cell? ⟨w.heap.size + 1, 0, none⟩ = some (.int .u32 (p : Int)) ∧ W.cell? ⟨w.heap.size + 1, 1, none⟩ = some (.slice ga gn gcap) ∧ W.cell? ⟨w.heap.size + 1 + 1, 0, none⟩ = some (.int .u32 (p : Int)) ∧ W.cell? ⟨w.heap.size + 1 + 1, 1, none⟩ = some (.slice a1 n1 c1) ∧ W.cell? ⟨w.heap.size + 1 + 1, 2, none⟩ = some (.int .u32 (p : Int)) ∧ W.cell? ⟨w.heap.size + 1 + 1, 3, none⟩ = some (.slice a2 n2 c2) ∧ W.cell? ⟨w.heap.size + 1 + 1, 4, none⟩ = some (.int .u32 (p : Int)) ∧ W.cell? ⟨w.heap.size + 1 + 1, 5, none⟩ = some (.slice a3 n3 c3) ∧ Boxes w W [#[.int .u32 (p : Int), .slice fa fn fcap], #[.int .u32 (p : Int), .slice ga gn gcap], (tri p a1 n1 c1 a2 n2 c2 a3 n3 c3), #[.int .u32 (p : Int), .slice fa fn fcap, .int .u32 (p : Int), .slice ga gn gcap, .int .u32 (p : Int), .slice a1 n1 c1, .int .u32 (p : Int), .slice a2 n2 c2, .int .u32 (p : Int), .slice a3 n3 c3]])
              (first | (exact K.out _ (by assumption)) | fail)
              (first
                | (go_at_call 53; (with_reducible refine (ppoly_Mul p a2 n2 c2 U fa fn fcap fl p w4.drew hU5 hf5 hp0 hp (by omega) (by omega)).mono ?_); rintro e w5 ⟨u1, k1, cc1, rfl, hs5, hb5, _⟩; have hB6 := hB5.mono hb5; have lm1 := HM1.out; have ls5 := hs5.len)
                | (go_at_call 53; (with_reducible refine (ppoly_Mul p a3 n3 c3 V ga gn gcap gl p w5 (hV5.mono hb5) (hg5.mono hb5) hp0 hp (by omega) (by omega)).mono ?_); rintro e w6 ⟨u2, k2, cc2, rfl, hs6, hb6, _⟩; have hB7 := hB6.mono hb6; have lm2 := HM2.out; have ls6 := hs6.len)
                | (go_at_call 49; refine (ppoly_Add p u1 k1 cc1 (mulL p U fl) u2 k2 cc2 (mulL p V gl) p w6 (hs5.mono hb6) hs6 hp0 hp (by omega) (by omega)).mono ?_; rintro e w7 ⟨u3, k3, cc3, rfl, hs7, hb7, _⟩; have hB8 := hB7.mono hb7; have hk3 : k3 ≤ 1099511627776 := add_bound hs7.len (by omega) (by omega))
                | (go_at_call 117; refine (ppoly_Same p u3 k3 cc3 _ p a1 n1 c1 G w7 hs7 (((hG5.mono hb5).mono hb6).mono hb7) hk3).mono ?_; rintro e w8 ⟨rfl, hb8⟩; have hB9 := hB8.mono hb8)
                | fail)
            have e9 : trim ((List.range (max k1 k2)).map fun i => addM p (nth (mulL p U fl) i) (nth (mulL p V gl) i)) = addL p (mulL p U fl) (mulL p V gl) := by unfold addL; rw [ls5, ls6]
            have HV : Hid (holdsB p fl p gl p G p U p V = sameB p (addL p (mulL p U fl) (mulL p V gl)) p G) := by show _ = _; simp only [holdsB, r0, r1, r2, r3, r4, HD.out, HD2.out, HL.out, decide_true, Bool.true_and, Bool.and_self]
            rw [e9]
            go_wp2
            try rw [Exit.noGoto_ret]
            go_ret
            exact ⟨by rw [HV.out]; rfl, hB9.below⟩
      · have hm : (0 : Int) ≤ (n1 : Int) - 1 := by omega
        go_wp2_with fail
        refine (ppoly_lead p a1 n1 c1 G w1 (h1.mono hB1.below)).mono ?_
        rintro e w2 ⟨rfl, hb2⟩
        have hB2 := hB1.mono hb2
        clear d0 d1 d2 d3 d4 d5 d6 d7 d8 d9
        by_cases hl : nth G (n1 - 1) = 1
        · have HL : Hid ((decide (G = []) || decide (nth G (G.length - 1) = 1)) = true) := by
            show _ = _
            rw [e1, hl]; simp
          have hl2 : (((nth G (n1 - 1) : Nat) : Int) != 1) = false := by rw [hl]; rfl
          clear hl
          obtain ⟨d0, d1, d2, d3, d4, d5, d6, d7, d8, d9, _⟩ := K.out w2 hB2
          go_wp2_with fail
          refine (ppoly_divides p a1 n1 c1 G fa fn fcap fl w2 (h1.mono hB2.below) (hf.mono hB2.below) hp1 hp (by omega) (by omega) cG).mono ?_
          rintro e w3 ⟨rfl, hb3⟩
          have hB3 := hB2.mono hb3
          clear d0 d1 d2 d3 d4 d5 d6 d7 d8 d9
          cases hd : dividesB p G fl with
          | false =>
            have HV : Hid (holdsB p fl p gl p G p U p V = false) := by show _ = _; simp [holdsB, hd]
            go_wp2
            try rw [Exit.noGoto_ret]
            go_ret
            exact ⟨by rw [HV.out]; rfl, hB3.below⟩
          | true =>
            have HD := Alg.hid hd
            clear hd
            obtain ⟨d0, d1, d2, d3, d4, d5, d6, d7, d8, d9, _⟩ := K.out w3 hB3
            go_wp2_with fail
            refine (ppoly_divides p a1 n1 c1 G ga gn gcap gl w3 (h1.mono hB3.below) (hg.mono hB3.below) hp1 hp (by omega) (by omega) cG).mono ?_
            rintro e w4 ⟨rfl, hb4⟩
            have hB4 := hB3.mono hb4
            clear d0 d1 d2 d3 d4 d5 d6 d7 d8 d9
            cases hd2 : dividesB p G gl with
            | false =>
              have HV : Hid (holdsB p fl p gl p G p U p V = false) := by show _ = _; simp [holdsB, hd2]
              go_wp2
              try rw [Exit.noGoto_ret]
              go_ret
              exact ⟨by rw [HV.out]; rfl, hB4.below⟩
            | true =>
              have HD2 := Alg.hid hd2
              clear hd2
              have hB5 := hB4.drew
              have hU5 := (h2.mono hB4.below).drew
              have hf5 := (hf.mono hB4.below).drew
              have hV5 := (h3.mono hB4.below).drew
              have hg5 := (hg.mono hB4.below).drew
              have hG5 := (h1.mono hB4.below).drew
              have HM1 := Alg.hid (mulL_len p U fl)
              have HM2 := Alg.hid (mulL_len p V gl)
              have eU := h2.len
              have eV := h3.len
              have ef := hf.len
              have eg := hg.len
              obtain ⟨d0, d1, d2, d3, d4, d5, d6, d7, d8, d9, _⟩ := K.out w4 hB4
              have hp0 : 0 < p := by omega
              go_wp2
              go_region_held3 (fun W => W.cell? ⟨w.heap.size, 0, none⟩ = some (.int .u32 (p : Int)) ∧ W.cell? ⟨w.heap.size, 1, none⟩ = some (.slice fa fn fcap) ∧ W.cell? ⟨w.heap.size + 1, 0, none⟩ = some (.int .u32 (p : Int)) ∧ W.cell? ⟨w.heap.size + 1, 1, none⟩ = some (.slice ga gn gcap) ∧ W.cell? ⟨w.heap.size + 1 + 1, 0, none⟩ = some (.int .u32 (p : Int)) ∧ W.cell? ⟨w.heap.size + 1 + 1, 1, none⟩ = some (.slice a1 n1 c1) ∧ W.cell? ⟨w.heap.size + 1 + 1, 2, none⟩ = some (.int .u32 (p : Int)) ∧ W.cell? ⟨w.heap.size + 1 + 1, 3, none⟩ = some (.slice a2 n2 c2) ∧ W.cell? ⟨w.heap.size + 1 + 1, 4, none⟩ = some (.int .u32 (p : Int)) ∧ W.cell? ⟨w.heap.size + 1 + 1, 5, none⟩ = some (.slice a3 n3 c3) ∧ Boxes w W [#[.int .u32 (p : Int), .slice fa fn fcap], #[.int .u32 (p : Int), .slice ga gn gcap], (tri p a1 n1 c1 a2 n2 c2 a3 n3 c3), #[.int .u32 (p : Int), .slice fa fn fcap, .int .u32 (p : Int), .slice ga gn gcap, .int .u32 (p : Int), .slice a1 n1 c1, .int .u32 (p : Int), .slice a2 n2 c2, .int .u32 (p : Int), .slice a3 n3 c3]])
                (first | (exact K.out _ (by assumption)) | fail)
                (first
                  | (go_at_call 53; (with_reducible refine (ppoly_Mul p a2 n2 c2 U fa fn fcap fl p w4.drew hU5 hf5 hp0 hp (by omega) (by omega)).mono ?_); rintro e w5 ⟨u1, k1, cc1, rfl, hs5, hb5, _⟩; have hB6 := hB5.mono hb5; have lm1 := HM1.out; have ls5 := hs5.len)
                  | (go_at_call 53; (with_reducible refine (ppoly_Mul p a3 n3 c3 V ga gn gcap gl p w5 (hV5.mono hb5) (hg5.mono hb5) hp0 hp (by omega) (by omega)).mono ?_); rintro e w6 ⟨u2, k2, cc2, rfl, hs6, hb6, _⟩; have hB7 := hB6.mono hb6; have lm2 := HM2.out; have ls6 := hs6.len)
                  | (go_at_call 49; refine (ppoly_Add p u1 k1 cc1 (mulL p U fl) u2 k2 cc2 (mulL p V gl) p w6 (hs5.mono hb6) hs6 hp0 hp (by omega) (by omega)).mono ?_; rintro e w7 ⟨u3, k3, cc3, rfl, hs7, hb7, _⟩; have hB8 := hB7.mono hb7; have hk3 : k3 ≤ 1099511627776 := add_bound hs7.len (by omega) (by omega))
                  | (go_at_call 117; refine (ppoly_Same p u3 k3 cc3 _ p a1 n1 c1 G w7 hs7 (((hG5.mono hb5).mono hb6).mono hb7) hk3).mono ?_; rintro e w8 ⟨rfl, hb8⟩; have hB9 := hB8.mono hb8)
                  | fail)
              have e9 : trim ((List.range (max k1 k2)).map fun i => addM p (nth (mulL p U fl) i) (nth (mulL p V gl) i)) = addL p (mulL p U fl) (mulL p V gl) := by unfold addL; rw [ls5, ls6]
              have HV : Hid (holdsB p fl p gl p G p U p V = sameB p (addL p (mulL p U fl) (mulL p V gl)) p G) := by show _ = _; simp only [holdsB, r0, r1, r2, r3, r4, HD.out, HD2.out, HL.out, decide_true, Bool.true_and, Bool.and_self]
              rw [e9]
              go_wp2
              try rw [Exit.noGoto_ret]
              go_ret
              exact ⟨by rw [HV.out]; rfl, hB9.below⟩
        · have hl2 : (((nth G (n1 - 1) : Nat) : Int) != 1) = true := by simp; omega
          have hGn : ¬ G = [] := fun h => by rw [h] at e1; simp at e1; omega
          obtain ⟨d0, d1, d2, d3, d4, d5, d6, d7, d8, d9, _⟩ := K.out w2 hB2
          have HV : Hid (holdsB p fl p gl p G p U p V = false) := by show _ = _; simp [holdsB, e1, hl, hGn]
          go_wp2
          try rw [Exit.noGoto_ret]
          go_ret
          exact ⟨by rw [HV.out]; rfl, hB2.below⟩

end Go.Proofs.YtbnjmeeaaieicaaDoor
end
section
open Alg
namespace Alg
open Poly
theorem addL_comb {p : Nat} [NeZero p] {f g G U V : List Nat} (cG : Canon p G) (h : pol p U * pol p f + pol p V * pol p g = pol p G) : addL p (mulL p U f) (mulL p V g) = G := by
  have h1 := addL_ok' (p := p) (mulL p U f) (mulL p V g)
  refine canon_ext h1.2 cG ?_
  rw [h1.1, (mulL_ok U f).1, (mulL_ok V g).1, h]
theorem dividesB_iff {p : Nat} [NeZero p] (hp : IsPr p) {f g : List Nat} (cf : Canon p f) (cg : Canon p g) : dividesB p f g = true ↔ Dv (pol p f) (pol p g) := by
  haveI := Fp.isFd hp
  unfold dividesB
  split
  · rename_i h0
    subst h0
    rw [decide_eq_true_eq, pol_nil]
    constructor
    · intro h; rw [h, pol_nil]; exact Dv.refl _
    · intro h; exact (pol_eq_zero cg).1 h.of_zero
  · rename_i h0
    rw [decide_eq_true_eq]
    obtain ⟨d1, d2, d3, d4⟩ := divL_ok hp g f cg cf h0
    have h5 := dv_rem (f := pol p g) (g := pol p f) (q := pol p (trim (divL p g f).1)) (r := pol p (trim (divL p g f).2)) d1.symm (by rw [pol_len d3, pol_len cf]; exact d4)
    rw [h5, pol_eq_zero d3]
theorem lead_one {p : Nat} [NeZero p] (hp : IsPr p) {G : List Nat} (cG : Canon p G) (h : pol p G = 0 ∨ (pol p G).Monic) : (decide (G = []) || decide (nth G (G.length - 1) = 1)) = true := by
  rcases h with h | h
  · simp [(pol_eq_zero cG).1 h]
  · have h1 : (pol p G).lead = 1 := h
    rw [pol_lead cG, ← Fp.of_one] at h1
    have h2 := Fp.of_inj (nth_lt cG (G.length - 1)) hp.1 h1
    have h3 : nth G (G.length - 1) = 1 := h2
    rw [h3, decide_eq_true (rfl : (1 : Nat) = 1), Bool.or_true]
theorem holdsB_gcd {p : Nat} (hp : IsPr p) (hp2 : p < 2147483648) {f g : List Nat} (cf : Canon p f) (cg : Canon p g) :
    holdsB p f p g p (gcdL p f g).G p (gcdL p f g).U p (gcdL p f g).V = true := by
  haveI : NeZero p := ⟨by have := hp.1; omega⟩
  obtain ⟨h1, h2, h3, h4⟩ := gcdL_ok hp f g cf cg
  have r := fun (l : List Nat) (c : Canon p l) => rightB_true.2 ⟨c, hp, hp2⟩
  simp only [holdsB, decide_true, Bool.true_and, r f cf, r g cg, r _ h1.cg, r _ h1.cu, r _ h1.cv, lead_one hp h1.cg h4, (dividesB_iff hp h1.cg cf).2 h2, (dividesB_iff hp h1.cg cg).2 h3, addL_comb h1.cg h1.comb]
  exact sameB_true.2 ⟨rfl, rfl⟩
theorem pr5 : IsPr 5 := by
  rw [isPr_iff]
  refine ⟨by omega, fun d h1 h2 h3 => ?_⟩
  have h4 : d = 2 := by
    rcases Nat.lt_or_ge d 3 with h | h
    · omega
    · have := Nat.mul_le_mul h h; omega
  subst h4
  omega
end Alg
end
