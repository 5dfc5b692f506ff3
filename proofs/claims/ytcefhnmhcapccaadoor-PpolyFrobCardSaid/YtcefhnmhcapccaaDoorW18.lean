/- The walk of PpolyDivides. -/
import Derived.Test.YtcefhnmhcapccaaDoorW17
import Derived.Test.YtcefhnmhcapccaaDoorA9
import Derived.Test.YtcefhnmhcapccaaDoorE4
open Alg Go Go.RowKit
namespace Alg
theorem pairB_true {p : Nat} {l : List Nat} {q : Nat} {l' : List Nat} {m : Nat} (h : pairB p l q l' m = true) :
    p = q ∧ l.length ≤ m + 1 ∧ l'.length ≤ m + 1 ∧ Canon p l ∧ Canon p l' ∧ IsPr p ∧ p < 2147483648 := by
  simp only [pairB, fairB, Bool.and_eq_true, decide_eq_true_eq, rightB_true] at h
  obtain ⟨⟨rfl, h1, h2, h3, h4⟩, h5, h6, _, _⟩ := h
  exact ⟨rfl, h1, h5, h2, h6, h3, h4⟩
/-- the call hands back two polynomials and a number -/
def RetX (P E : Nat) (Lq Lr : List Nat) (w : World) (e : Ending) (w' : World) : Prop :=
  ∃ a n cap b m cap', e = .returned (.tuple #[.agg #[.int .u32 (P : Nat), .slice a n cap], .agg #[.int .u32 (P : Nat), .slice b m cap'], .int .i64 (E : Nat)]) ∧ Sl w' a n cap Lq ∧ Sl w' b m cap' Lr ∧ Below w.heap.size w w'
theorem RetD.x {p : Nat} {L : List Nat × List Nat} {w w' : World} {e : Ending} (h : RetD p L w e w') : RetX p 0 (trim L.1) (trim L.2) w e w' := by
  obtain ⟨a, n, cap, b, m, cap', h1, h2, h3, h4, _, _⟩ := h
  exact ⟨a, n, cap, b, m, cap', h1, h2, h3, h4⟩
theorem Boxes.at0 {w W : World} {L : List (Array Value)} (h : Boxes w W L) {x y : Value} (hj : L[0]? = some #[x, y]) : W.cell? ⟨w.heap.size, 0, none⟩ = some x ∧ W.cell? ⟨w.heap.size, 1, none⟩ = some y :=
  ⟨h.cell' 0 0 _ _ hj rfl, h.cell' 0 1 _ _ hj rfl⟩
theorem Boxes.at1 {w W : World} {L : List (Array Value)} (h : Boxes w W L) {x y : Value} (hj : L[1]? = some #[x, y]) : W.cell? ⟨w.heap.size + 1, 0, none⟩ = some x ∧ W.cell? ⟨w.heap.size + 1, 1, none⟩ = some y :=
  ⟨h.cell' 1 0 _ _ hj rfl, h.cell' 1 1 _ _ hj rfl⟩
theorem mulL_len (p : Nat) (f g : List Nat) : (mulL p f g).length ≤ f.length + g.length := by
  unfold mulL
  split
  · exact Nat.zero_le _
  · refine Nat.le_trans (trim_len _) ?_
    rw [outerM_len]; omega
theorem add_bound {F : Nat → Nat} {a b n N : Nat} (h : (trim ((List.range (max a b)).map F)).length = n) (ha : a ≤ N) (hb : b ≤ N) : n ≤ N := by
  have := trim_len ((List.range (max a b)).map F)
  simp only [List.length_map, List.length_range] at this
  omega
theorem nth_ge {l : List Nat} {i : Nat} (h : l.length ≤ i) : nth l i = 0 := getD_ge h
theorem addL_ok {p : Nat} [NeZero p] (f g : List Nat) (n : Nat) (hf : f.length ≤ n) (hg : g.length ≤ n) :
    pol p (trim ((List.range n).map fun i => addM p (nth f i) (nth g i))) = pol p f + pol p g ∧ Canon p (trim ((List.range n).map fun i => addM p (nth f i) (nth g i))) := by
  constructor
  · rw [pol_trim]
    refine Poly.ext fun i => ?_
    rw [pol_ofFn, Poly.c_add, pol_c, pol_c]
    split
    · exact of_addM _ _
    · have h1 : f.getD i 0 = 0 := getD_ge (by omega)
      have h2 : g.getD i 0 = 0 := getD_ge (by omega)
      rw [h1, h2, Fp.of_zero, CR.add_zero]
  · refine Canon.trim fun c hc => ?_
    obtain ⟨i, _, rfl⟩ := List.mem_map.1 hc
    exact addM_lt _ _ _ (Nat.pos_of_ne_zero (NeZero.ne p))
end Alg
namespace Go.Proofs.YtcefhnmhcapccaaDoor
open Go.RowKit
/-- what 'awake' answers -/
def Awake : Prop := ∀ w : World, Calls Tryd.prog 12 #[] w fun e w' => e = .returned (.bool true) ∧ Below w.heap.size w w'
theorem div_both (p : Nat) (fl gl : List Nat) (hp0 : 1 < p) (hp : p < 4294967296) (lf : fl.length ≤ 1099511627776) (lg : gl.length ≤ 1099511627776) (cg : Canon p gl) :
    ∃ P E Lq Lr, (∀ fa fn fcap ga gn gcap w, Sl w fa fn fcap fl → Sl w ga gn gcap gl → Calls Tryd.prog 14 #[.agg #[.int .u32 p, .slice fa fn fcap], .agg #[.int .u32 p, .slice ga gn gcap]] w (RetX P E Lq Lr w)) ∧
      (∀ fa fn fcap ga gn gcap w, Sl w fa fn fcap fl → Sl w ga gn gcap gl → Calls Tryd.prog 15 #[.agg #[.int .u32 p, .slice fa fn fcap], .agg #[.int .u32 p, .slice ga gn gcap]] w (RetX P E Lq Lr w)) ∧
      (P < 4294967296) ∧ (Lq.length ≤ fl.length + 1 ∧ Lr.length ≤ fl.length) ∧ ((E = 3 ∧ gl = []) ∨ (E = 0 ∧ p = P ∧ gl ≠ [] ∧ Lq = trim (divL p fl gl).1 ∧ Lr = trim (divL p fl gl).2)) := by
  by_cases h : gl = []
  · subst h
    refine ⟨0, 3, [], [], ?_, ?_, by omega, ⟨Nat.zero_le _, Nat.zero_le _⟩, Or.inl ⟨rfl, rfl⟩⟩
    · intro fa fn fcap ga gn gcap w hf hg
      have h0 : gn = 0 := hg.len.symm
      subst h0
      refine (ppoly_Div0 p fa fn fcap ga gcap p w).mono ?_
      rintro e w' ⟨rfl, hb⟩
      exact ⟨_, _, _, _, _, _, rfl, Sl.of_nil _ _ _ (by omega), Sl.of_nil _ _ _ (by omega), hb⟩
    · intro fa fn fcap ga gn gcap w hf hg
      have h0 : gn = 0 := hg.len.symm
      subst h0
      refine (ref_Div0 p fa fn fcap ga gcap p w).mono ?_
      rintro e w' ⟨rfl, hb⟩
      exact ⟨_, _, _, _, _, _, rfl, Sl.of_nil _ _ _ (by omega), Sl.of_nil _ _ _ (by omega), hb⟩
  · have hl : nth gl (gl.length - 1) ≠ 0 := by
      rcases cg.top with h1 | h1
      · exact absurd h1 h
      · exact h1
    refine ⟨p, 0, _, _, ?_, ?_, hp, ⟨Nat.le_trans (trim_len _) (by unfold divL; rw [(stepsD_len _ _ _ _ _ _).1]; unfold divN; omega), Nat.le_trans (trim_len _) (by unfold divL; rw [(stepsD_len _ _ _ _ _ _).2]; exact Nat.le_refl _)⟩, Or.inr ⟨rfl, rfl, h, rfl, rfl⟩⟩
    · intro fa fn fcap ga gn gcap w hf hg
      have e1 := hf.len
      have e2 := hg.len
      have h0 : 0 < gn := by have := List.length_pos_iff.2 h; omega
      exact (ppoly_DivMod p fa fn fcap fl ga gn gcap gl p w hf hg h0 (by rw [← e2]; exact hl) hp0 hp (by omega) (by omega)).mono fun _ _ h => h.x
    · intro fa fn fcap ga gn gcap w hf hg
      have e1 := hf.len
      have e2 := hg.len
      have h0 : 0 < gn := by have := List.length_pos_iff.2 h; omega
      exact (ref_DivMod p fa fn fcap fl ga gn gcap gl p w hf hg h0 hp0 hp (by omega) (by omega)).mono fun _ _ h => h.x
set_option maxRecDepth 100000 in
set_option maxHeartbeats 1000000 in
theorem divides_walk (hA : Awake) (p : Nat) (fa : Option Addr) (fn fcap : Nat) (fl : List Nat) (q : Nat) (ga : Option Addr) (gn gcap : Nat) (gl : List Nat) (w : World) (hf : Sl w fa fn fcap fl) (hg : Sl w ga gn gcap gl) (hp : p < 4294967296) (hq : q < 4294967296) :
    Calls Tryd.prog 3 #[.agg #[.int .u32 p, .slice fa fn fcap], .agg #[.int .u32 q, .slice ga gn gcap]] w fun e w' => e = .returned (.bool true) ∧ Below w.heap.size w w' := by
  have hbx := boxes2 w #[.int .u32 (p : Int), .slice fa fn fcap] #[.int .u32 (q : Int), .slice ga gn gcap] 25 25
  go_enter Tryd.func3, Tryd.ntmps3
  go_wp2_with fail
  refine (hA _).mono ?_
  rintro e w1 ⟨rfl, hb1⟩
  have hx1 := hbx.mono hb1
  have d0 : w1.cell? ⟨w.heap.size, 0, none⟩ = some (.int .u32 (p : Int)) := hx1.cell' 0 0 _ _ rfl rfl
  have d1 : w1.cell? ⟨w.heap.size, 1, none⟩ = some (.slice fa fn fcap) := hx1.cell' 0 1 _ _ rfl rfl
  have d2 : w1.cell? ⟨w.heap.size + 1, 0, none⟩ = some (.int .u32 (q : Int)) := hx1.cell' 1 0 _ _ rfl rfl
  have d3 : w1.cell? ⟨w.heap.size + 1, 1, none⟩ = some (.slice ga gn gcap) := hx1.cell' 1 1 _ _ rfl rfl
  go_wp2_with fail
  refine (ref_Pair p fa fn fcap fl q ga gn gcap gl 20 w1 (hf.mono hx1.below) (hg.mono hx1.below) hp hq (by omega)).mono ?_
  rintro e w2 ⟨rfl, hb2⟩
  have hx2 := hx1.mono hb2
  clear d0 d1 d2 d3 hbx hx1
  cases hpb : pairB p fl q gl 20 with
  | false =>
    go_wp2
    go_ret
    exact ⟨rfl, hx2.below⟩
  | true =>
    obtain ⟨rfl, lf, lg, cf, cg, hpr, hp2⟩ := pairB_true hpb
    rw [hf.len] at lf
    rw [hg.len] at lg
    clear hpb
    have d0 : w2.cell? ⟨w.heap.size, 0, none⟩ = some (.int .u32 (p : Int)) := hx2.cell' 0 0 _ _ rfl rfl
    have d1 : w2.cell? ⟨w.heap.size, 1, none⟩ = some (.slice fa fn fcap) := hx2.cell' 0 1 _ _ rfl rfl
    have d2 : w2.cell? ⟨w.heap.size + 1, 0, none⟩ = some (.int .u32 (p : Int)) := hx2.cell' 1 0 _ _ rfl rfl
    have d3 : w2.cell? ⟨w.heap.size + 1, 1, none⟩ = some (.slice ga gn gcap) := hx2.cell' 1 1 _ _ rfl rfl
    have hf2 := hf.mono hx2.below
    have hg2 := hg.mono hx2.below
    obtain ⟨P, E, Lq, Lr, hD1, hD2, hP, ⟨lq, lr⟩, hcase⟩ := div_both p fl gl hpr.1 hp (by rw [hf.len]; omega) (by rw [hg.len]; omega) cg
    have HD2 := Alg.hid hD2
    have HC := Alg.hid hcase
    clear hD2 hcase
    go_wp2_with fail
    refine (hD1 fa fn fcap ga gn gcap w2 hf2 hg2).mono ?_
    rintro e w3 ⟨a1, n1, cap1, a2, n2, cap2, rfl, hq3, hr3, hb3⟩
    have hy3 := boxes2 w3 #[.int .u32 (P : Int), .slice a1 n1 cap1] #[.int .u32 (P : Int), .slice a2 n2 cap2] 25 25
    have hx3 := (hx2.mono hb3).mono hy3.below
    have hw3 := hy3.below
    clear d0 d1 d2 d3 hD1
    obtain ⟨d0, d1⟩ := hx3.at0 rfl
    obtain ⟨d2, d3⟩ := hx3.at1 rfl
    have hf3 := hf.mono hx3.below
    have hg3 := hg.mono hx3.below
    go_wp2_with fail
    refine (HD2.out fa fn fcap ga gn gcap _ hf3 hg3).mono ?_
    rintro e w4 ⟨b1, m1, c1, b2, m2, c2, rfl, hx4q, hy4r, hb4⟩
    have hz4 := boxes2 w4 #[.int .u32 (P : Int), .slice b1 m1 c1] #[.int .u32 (P : Int), .slice b2 m2 c2] 25 25
    have hy4 := (hy3.mono hb4).mono hz4.below
    have hx4 := (hx3.mono hb4).mono hz4.below
    rw [hf.len] at lq lr
    have e1 := hq3.len
    have e2 := hr3.len
    clear d0 d1 d2 d3
    obtain ⟨d0, d1⟩ := hy4.at0 rfl
    obtain ⟨d2, d3⟩ := hz4.at0 rfl
    have hq4 := hq3.mono hy4.below
    have hq4' := hx4q.mono hz4.below
    have hE : ((E : Int) != (E : Int)) = false := by simp
    go_wp2_with fail
    refine (ref_Same P a1 n1 cap1 Lq P b1 m1 c1 Lq _ hq4 hq4' (by omega)).mono ?_
    rw [sameB_true.2 ⟨rfl, rfl⟩]
    rintro e w5 ⟨rfl, hb5⟩
    have hz5 := hz4.mono hb5
    have hy5 := hy4.mono hb5
    have hx5 := hx4.mono hb5
    clear d0 d1 d2 d3 hq4 hq4'
    obtain ⟨d0, d1⟩ := hy5.at1 rfl
    obtain ⟨d2, d3⟩ := hz5.at1 rfl
    have hr5 := hr3.mono hy5.below
    have hr5' := hy4r.mono hz5.below
    go_wp2_with fail
    refine (ref_Same P a2 n2 cap2 Lr P b2 m2 c2 Lr _ hr5 hr5' (by omega)).mono ?_
    rw [sameB_true.2 ⟨rfl, rfl⟩]
    rintro e w6 ⟨rfl, hb6⟩
    have hy6 := hy5.mono hb6
    have hx6 := hx5.mono hb6
    clear d0 d1 d2 d3 hr5 hr5'
    clear hz4 hz5 hy5 hx5 hy4 hx4
    rcases HC.out with ⟨rfl, rfl⟩ | ⟨rfl, rfl, hgl, hLq, hLr⟩
    · go_wp2
      go_quiet (fail)
      go_wp2
      go_ret
      exact ⟨rfl, (hx6.drewN _).below⟩
    · have K : Hid (∀ W, Boxes w W [#[.int .u32 (p : Int), .slice fa fn fcap], #[.int .u32 (p : Int), .slice ga gn gcap]] → Boxes w3 W [#[.int .u32 (p : Int), .slice a1 n1 cap1], #[.int .u32 (p : Int), .slice a2 n2 cap2]] → W.cell? ⟨w.heap.size, 0, none⟩ = some (.int .u32 (p : Int)) ∧ W.cell? ⟨w.heap.size, 1, none⟩ = some (.slice fa fn fcap) ∧ W.cell? ⟨w.heap.size + 1, 0, none⟩ = some (.int .u32 (p : Int)) ∧ W.cell? ⟨w.heap.size + 1, 1, none⟩ = some (.slice ga gn gcap) ∧ W.cell? ⟨w3.heap.size, 0, none⟩ = some (.int .u32 (p : Int)) ∧ W.cell? ⟨w3.heap.size, 1, none⟩ = some (.slice a1 n1 cap1) ∧ W.cell? ⟨w3.heap.size + 1, 0, none⟩ = some (.int .u32 (p : Int)) ∧ W.cell? ⟨w3.heap.size + 1, 1, none⟩ = some (.slice a2 n2 cap2) ∧ Boxes w W [#[.int .u32 (p : Int), .slice fa fn fcap], #[.int .u32 (p : Int), .slice ga gn gcap]] ∧ Boxes w3 W [#[.int .u32 (p : Int), .slice a1 n1 cap1], #[.int .u32 (p : Int), .slice a2 n2 cap2]]) :=
        fun W h h' => ⟨h.at0 rfl |>.1, h.at0 rfl |>.2, h.at1 rfl |>.1, h.at1 rfl |>.2, h'.at0 rfl |>.1, h'.at0 rfl |>.2, h'.at1 rfl |>.1, h'.at1 rfl |>.2, h, h'⟩
      have h1p : 1 < p := hpr.1
      haveI : NeZero p := ⟨by omega⟩
      obtain ⟨hd1, hd2, hd3, hd4⟩ := Alg.divL_ok hpr fl gl cf cg hgl
      have hp0 : 0 < p := by omega
      have hq6 := (hq3.mono hy6.below).drew
      have hg6 := (hg.mono hx6.below).drew
      have hr6 := (hr3.mono hy6.below).drew
      have hf6 := (hf.mono hx6.below).drew
      have hx6d := hx6.drew
      have hy6d := hy6.drew
      have hgn : gn ≤ 1099511627776 := by omega
      have hn1 : n1 ≤ 1099511627776 := by omega
      have hn2 : n2 ≤ 1099511627776 := by omega
      have hml := mulL_len p Lq gl
      have hgl' := hg.len
      have hn2' : n2 ≤ 9223372036854775807 := by omega
      have hgn' : gn ≤ 9223372036854775807 := by omega
      have hdeg : (n2 : Int) - 1 < (gn : Int) - 1 := by rw [← hLr] at hd4; omega
      have hsm : Hid (∀ n, (mulL p Lq gl).length ≤ n → Lr.length ≤ n → sameB p (trim ((List.range n).map fun i => addM p (nth (mulL p Lq gl) i) (nth Lr i))) p fl = true) := by
        intro n k1 k2
        obtain ⟨k3, k4⟩ := addL_ok (p := p) (mulL p Lq gl) Lr n k1 k2
        refine sameB_true.2 ⟨rfl, canon_ext k4 cf ?_⟩
        rw [k3, (mulL_ok (p := p) Lq gl).1, hLq, hLr]
        exact hd1
      clear hd1 hd2 hd3 hd4 hLq hLr hgl HC HD2 cf cg
      go_wp2
      go_region_held3 (fun W => W.cell? ⟨w.heap.size, 0, none⟩ = some (.int .u32 (p : Int)) ∧ W.cell? ⟨w.heap.size, 1, none⟩ = some (.slice fa fn fcap) ∧ W.cell? ⟨w.heap.size + 1, 0, none⟩ = some (.int .u32 (p : Int)) ∧ W.cell? ⟨w.heap.size + 1, 1, none⟩ = some (.slice ga gn gcap) ∧ W.cell? ⟨w3.heap.size, 0, none⟩ = some (.int .u32 (p : Int)) ∧ W.cell? ⟨w3.heap.size, 1, none⟩ = some (.slice a1 n1 cap1) ∧ W.cell? ⟨w3.heap.size + 1, 0, none⟩ = some (.int .u32 (p : Int)) ∧ W.cell? ⟨w3.heap.size + 1, 1, none⟩ = some (.slice a2 n2 cap2) ∧ Boxes w W [#[.int .u32 (p : Int), .slice fa fn fcap], #[.int .u32 (p : Int), .slice ga gn gcap]] ∧ Boxes w3 W [#[.int .u32 (p : Int), .slice a1 n1 cap1], #[.int .u32 (p : Int), .slice a2 n2 cap2]])
        (first | (exact K.out _ (by assumption) (by assumption)) | fail)
        (first
          | (go_at_call 18; refine (ppoly_Mul p a1 n1 cap1 Lq ga gn gcap gl p w6.drew hq6 hg6 hp0 hp hn1 hgn).mono ?_; rintro e w7 ⟨a3, n3, cap3, rfl, hs7, hb7, _⟩; have hx7 := hx6d.mono hb7; have hy7 := hy6d.mono hb7; have hr7 := hr6.mono hb7; have hf7 := hf6.mono hb7; have e7 := hs7.len; have hn3 : n3 ≤ 1099511627776 := (by omega))
          | (go_at_call 17; refine (ppoly_Add p a3 n3 cap3 (mulL p Lq gl) a2 n2 cap2 Lr p w7 hs7 hr7 hp0 hp hn3 hn2).mono ?_; rintro e w8 ⟨a4, n4, cap4, rfl, hs8, hb8, _⟩; have hx8 := hx7.mono hb8; have hy8 := hy7.mono hb8; have hf8 := hf7.mono hb8; have hn4 : n4 ≤ 1099511627776 := (add_bound hs8.len hn3 hn2); have hsame := hsm.out (max n3 n2) (Nat.le_trans (Nat.le_of_eq hs7.len) (Nat.le_max_left _ _)) (Nat.le_trans (Nat.le_of_eq hr7.len) (Nat.le_max_right _ _)))
          | (go_at_call 16; refine (ref_Same p a4 n4 cap4 _ p fa fn fcap fl w8 hs8 hf8 hn4).mono ?_; rw [hsame]; rintro e w9 ⟨rfl, hb9⟩; have hx9 := hx8.mono hb9; have hy9 := hy8.mono hb9)
          | (go_at_call 19; refine (ppoly_Deg p a2 n2 cap2 w9 hn2').mono ?_; rintro e w10 ⟨rfl, hb10⟩; have hx10 := hx9.mono hb10; have hy10 := hy9.mono hb10)
          | (go_at_call 19; refine (ppoly_Deg p ga gn gcap w10 hgn').mono ?_; rintro e w11 ⟨rfl, hb11⟩; have hx11 := hx10.mono hb11; have hy11 := hy10.mono hb11)
          | fail)
      all_goals
        go_wp2
        go_ret
        exact ⟨rfl, hx11.below⟩
end Go.Proofs.YtcefhnmhcapccaaDoor
