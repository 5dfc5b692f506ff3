/- The walks of DegreesParts, DegreesNever. The walk of DegreesProduct. -/
import Derived.Test.YtcbhoedifgghhaaDoorA28
import Derived.Test.YtcbhoedifgghhaaDoorLC
section
open Alg Go Go.RowKit
namespace Alg
/-- the cells of an element -/
theorem SlK.at {w : World} {b off n cap : Nat} {L : List (Nat × List Nat)} (h : SlK kPoly w (some ⟨b, off, none⟩) n cap L) (i : Nat) (hi : i < L.length) :
    ∃ a m c, w.cell? ⟨b, off + i * 2, none⟩ = some (.int .u32 (L[i].1 : Int)) ∧ w.cell? ⟨b, off + i * 2 + 1, none⟩ = some (.slice a m c) ∧ Sl w a m c L[i].2 := by
  obtain ⟨vs, hc, a, m, c, rfl, s, _⟩ := h.nthAt i hi
  exact ⟨a, m, c, hc 0 (by decide), hc 1 (by decide), s⟩
end Alg
namespace Go.Proofs.YtcbhoedifgghhaaDoor
open Go.RowKit
set_option maxRecDepth 100000 in
set_option maxHeartbeats 800000 in
theorem parts15_walk (p : Nat) (fa : Option Addr) (fn fcap : Nat) (fl : List Nat) (w : World) (hf : Sl w fa fn fcap fl) (hp : p < 4294967296) (hFC : ∀ q, q < 4294967296 → FieldC w q) :
    Calls Tryd.prog 3 #[.agg #[.int .u32 (p : Int), .slice fa fn fcap]] w fun e w' => e = .returned (.bool true) ∧ Below w.heap.size w w' := by
  have hbx := boxes1 w #[.int .u32 (p : Int), .slice fa fn fcap] 25
  have HFC := Alg.hid hFC
  have lf := hf.len
  clear hFC
  go_enter Tryd.func3, Tryd.ntmps3
  go_upto_region 1 with fail
  generalize hW0 : w.alloc (.cells #[.int .u32 (p : Int), .slice fa fn fcap] 25) = W0 at hbx ⊢
  clear hW0
  have K : Hid (∀ W, Boxes w W [#[.int .u32 (p : Int), .slice fa fn fcap]] → W.cell? ⟨w.heap.size, 0, none⟩ = some (.int .u32 (p : Int)) ∧ W.cell? ⟨w.heap.size, 1, none⟩ = some (.slice fa fn fcap)) := fun W h => ⟨h.cell' 0 0 _ _ rfl rfl, h.cell' 0 1 _ _ rfl rfl⟩
  go_wp2_with fail
  refine (awake15 W0 ((HFC.out 2 (by decide)).mono hbx.below)).mono ?_
  rintro e w1 ⟨rfl, hb1⟩
  have hx1 := hbx.mono hb1
  obtain ⟨d0, d1⟩ := K.out w1 hx1
  go_wp2_with fail
  refine (ref_Fair p fa fn fcap fl 10 w1 (hf.mono hx1.below) hp (by omega)).mono ?_
  rintro e w2 ⟨rfl, hb2⟩
  have hx2 := hx1.mono hb2
  clear d0 d1 hb1 hb2 hbx hx1
  obtain ⟨d0, d1⟩ := K.out w2 hx2
  cases hfair : fairB p fl 10 with
  | false =>
    go_wp2
    go_ret
    exact ⟨rfl, hx2.below⟩
  | true =>
    obtain ⟨hlen, hcan, hpr, hp31⟩ := fairB_true hfair
    haveI hne : NeZero p := ⟨by have := hpr.1; omega⟩
    clear hfair
    go_wp2_with fail
    refine (deg_Parts p fa fn fcap fl w2 (hf.mono hx2.below) hpr hp hcan (by omega)).mono ?_
    intro e w3 hR
    obtain ⟨L, err, hP, a1, n1, c1, rfl, s1, hb3⟩ := hR.parts
    have hx3 := hx2.mono hb3
    clear d0 d1 hR
    obtain ⟨d0, d1⟩ := K.out w3 hx3
    go_wp2_with fail
    refine (ref15_Parts p fa fn fcap fl w3 (hf.mono hx3.below) hpr hp hcan (by omega)).mono ?_
    intro e w4 hR
    obtain ⟨L', err', hP', a2, n2, c2, rfl, s2, hb4⟩ := hR.parts
    obtain ⟨rfl, rfl⟩ := hP.unique hP'
    have s3 := s1.mono hb4
    have hx4 := hx3.mono hb4
    have l1 := s3.len
    have l2 := s2.len
    obtain rfl : n1 = n2 := by omega
    have hLs : L.length ≤ 1000 ∧ ∀ x ∈ L, x.2.length ≤ 1099511627776 := by
      rcases hP with ⟨hok, ⟨i, hi, rfl⟩, _⟩ | ⟨_, rfl, _⟩
      · refine ⟨by rw [partsL_len]; have := hi.short hpr hcan hok; omega, fun x hx => ?_⟩
        obtain ⟨j, _, rfl⟩ := List.mem_map.1 hx
        have := (gP_deg hpr hcan hok j).2.2
        show (gP p (rP p fl j) (j + 1)).length ≤ _
        omega
      · exact ⟨by simp, fun x h => absurd h (by simp)⟩
    have HLS := Alg.hid hLs.2
    have hL1 := hLs.1
    have herr : (err != err) = false := by simp
    have hnn : ((n1 : Int) != (n1 : Int)) = false := by simp
    have S1 := Alg.hid s3
    have S2 := Alg.hid s2
    clear d0 d1 hR hP hP' s1 s2 s3 hLs hx2 hx3 hb3 hb4
    go_wp2
    go_loopw [7] (fun v wr => ∃ i : Nat, v = .int .i64 i ∧ i ≤ n1 ∧ Hid (Boxes w wr [#[.int .u32 (p : Int), .slice fa fn fcap]]) ∧ Hid (Below w4.heap.size w4 wr)) (fun v _ => n1 - (intOf v).toNat)
    case atStart => exact ⟨0, rfl, Nat.zero_le _, hx4, Below.refl _ _⟩
    case round =>
      obtain ⟨i, rfl, hi, hx, hB⟩ := hrel
      by_cases hin : i < n1
      · have hin' : (i : Int) < (n1 : Int) := by omega
        have hi0 : (0 : Int) ≤ (i : Int) := by omega
        have hiL : i < L.length := by omega
        rcases S1.out.rd with h | ⟨b1, o1, rfl, _⟩
        · omega
        rcases S2.out.rd with h | ⟨b2, o2, rfl, _⟩
        · omega
        have t1 := (S1.out.mono hB.out).mono (bdrew (Below.refl _ wr))
        have t2 := (S2.out.mono hB.out).mono (bdrew (Below.refl _ wr))
        obtain ⟨a3, m3, c3, k0, k1, g1⟩ := t1.at i hiL
        obtain ⟨a4, m4, c4, k2, k3, g2⟩ := t2.at i hiL
        have hm3 : m3 ≤ 1099511627776 := by rw [← g1.len]; exact HLS.out _ (List.getElem_mem hiL)
        generalize hgp : L[i].1 = P at k0 k2
        generalize hgl : L[i].2 = Q at g1 g2
        have HS : Hid (sameB P Q P Q = true) := sameB_true.2 ⟨rfl, rfl⟩
        have KR : Hid (∀ W, Below wr.drew.heap.size wr.drew W → W.cell? ⟨b1, o1 + i * 2, none⟩ = some (.int .u32 (P : Int)) ∧ W.cell? ⟨b1, o1 + i * 2 + 1, none⟩ = some (.slice a3 m3 c3) ∧ W.cell? ⟨b2, o2 + i * 2, none⟩ = some (.int .u32 (P : Int)) ∧ W.cell? ⟨b2, o2 + i * 2 + 1, none⟩ = some (.slice a4 m4 c4)) := fun W h => ⟨(h.cell (cell_lt k0)).trans k0, (h.cell (cell_lt k1)).trans k1, (h.cell (cell_lt k2)).trans k2, (h.cell (cell_lt k3)).trans k3⟩
        have hR0 : Below wr.drew.heap.size wr.drew wr.drew := Below.refl _ _
        clear k0 k1 k2 k3 t1 t2 hgp hgl
        go_upto_region 12 with fail
        refine wp_region_noPanic ?_
        refine wp_region_held2 9 [(1, 0), (1, 1), (1, 2), (1, 3), (1, 4), (1, 5), (1, 6), (1, 7), (0, 8), (3, 9)] (fun W => W.cell? ⟨b1, o1 + i * 2, none⟩ = some (.int .u32 (P : Int)) ∧ W.cell? ⟨b1, o1 + i * 2 + 1, none⟩ = some (.slice a3 m3 c3) ∧ W.cell? ⟨b2, o2 + i * 2, none⟩ = some (.int .u32 (P : Int)) ∧ W.cell? ⟨b2, o2 + i * 2 + 1, none⟩ = some (.slice a4 m4 c4)) (fun _ => True) (by kernel_rfl) (by kernel_rfl) (fun _ _ _ _ _ h => h) (fun _ _ => trivial) (KR.out _ hR0) (fun _ => ?_)
        simp only [pick2, List.getElem?_cons_succ, List.getElem?_cons_zero]
        iterate 8
          (refine held2_early (v := ?_) (by rfl) ?_ ?_
           rotate_left
           · intro W hSw; (try dsimp only at hSw); go_simp; (try with_reducible rfl)
           try simp only [Act.put, List.setIfInBounds_toArray, List.set_cons_zero, List.set_cons_succ])
        refine held2_loud (fun K' hK => ?_)
        go_simp
        refine (ref_Same P a3 m3 c3 Q P a4 m4 c4 Q wr.drew g1 g2 hm3).mono ?_
        rw [HS.out]
        rintro e w5 ⟨rfl, hb5⟩
        refine hK.out _ _ (KR.out _ hb5) (fun _ => ?_)
        clear hK K'
        try simp only [Act.put, List.setIfInBounds_toArray, List.set_cons_zero, List.set_cons_succ]
        refine held2_store (fun K' hK => ?_)
        go_simp
        refine hK.out _ _ trivial (fun _ => ?_)
        clear hK K'
        try simp only [Act.put, List.setIfInBounds_toArray, List.set_cons_zero, List.set_cons_succ]
        refine held2_nil ?_
        refine NoPanic.normal ?_
        have hx5 := Alg.hid (hx.out.drew.mono hb5)
        have hB5 : Hid (Below w4.heap.size w4 w5) := bl hB.out (btrans (bdrew (Below.refl _ wr)) hb5) hB.out.size
        clear KR HS g1 g2
        go_wp2
        go_roundw
        case rel => exact ⟨i + 1, by go_num, by omega, hx5, hB5⟩
        case measure => simp [intOf]; omega
      · have hin' : ¬ (i : Int) < (n1 : Int) := by omega
        have hxx := hx.out.below
        go_wp2
        go_ret
        exact ⟨rfl, hxx⟩
theorem pairB_true {p q m : Nat} {l l' : List Nat} (h : pairB p l q l' m = true) : p = q ∧ fairB p l m = true ∧ fairB q l' m = true := by
  unfold pairB at h
  simp only [Bool.and_eq_true, decide_eq_true_eq] at h
  exact ⟨h.1.1, h.1.2, h.2⟩
set_option maxRecDepth 100000 in
set_option maxHeartbeats 800000 in
theorem never15_walk (p : Nat) (fa : Option Addr) (fn fcap : Nat) (fl : List Nat) (q : Nat) (ga : Option Addr) (gn gcap : Nat) (gl : List Nat) (wa : Option Addr) (wn wcap : Nat) (WL : List PB) (w : World) (hf : Sl w fa fn fcap fl) (hg : Sl w ga gn gcap gl) (hW : SlB w wa wn wcap WL) (hp : p < 4294967296) (hq : q < 4294967296)
    (hFC : ∀ q, q < 4294967296 → FieldC w q) (hb60 : ∀ x ∈ WL, x.G.length ≤ 35184372087808 ∧ x.U.length ≤ 35184372087808 ∧ x.V.length ≤ 35184372087808) :
    Calls Tryd.prog 9 #[.agg #[.int .u32 (p : Int), .slice fa fn fcap], .agg #[.int .u32 (q : Int), .slice ga gn gcap], .slice wa wn wcap] w fun e w' => e = .returned (.bool true) ∧ Below w.heap.size w w' := by
  have hbx := boxes2 w #[.int .u32 (p : Int), .slice fa fn fcap] #[.int .u32 (q : Int), .slice ga gn gcap] 25 25
  have HFC := Alg.hid hFC
  have H60 := Alg.hid hb60
  have lf := hf.len
  have lg := hg.len
  clear hFC hb60
  go_enter Tryd.func9, Tryd.ntmps9
  go_upto_region 1 with fail
  generalize hW0 : (w.alloc (.cells #[.int .u32 (p : Int), .slice fa fn fcap] 25)).alloc (.cells #[.int .u32 (q : Int), .slice ga gn gcap] 25) = W0 at hbx ⊢
  clear hW0
  have K : Hid (∀ W, Boxes w W [#[.int .u32 (p : Int), .slice fa fn fcap], #[.int .u32 (q : Int), .slice ga gn gcap]] → (W.cell? ⟨w.heap.size, 0, none⟩ = some (.int .u32 (p : Int)) ∧ W.cell? ⟨w.heap.size, 1, none⟩ = some (.slice fa fn fcap)) ∧ W.cell? ⟨w.heap.size + 1, 0, none⟩ = some (.int .u32 (q : Int)) ∧ W.cell? ⟨w.heap.size + 1, 1, none⟩ = some (.slice ga gn gcap)) := fun W h => ⟨⟨h.cell' 0 0 _ _ rfl rfl, h.cell' 0 1 _ _ rfl rfl⟩, h.cell' 1 0 _ _ rfl rfl, h.cell' 1 1 _ _ rfl rfl⟩
  go_wp2_with fail
  refine (awake15 W0 ((HFC.out 2 (by decide)).mono hbx.below)).mono ?_
  rintro e w1 ⟨rfl, hb1⟩
  have hx1 := hbx.mono hb1
  obtain ⟨⟨d0, d1⟩, d2, d3⟩ := K.out w1 hx1
  go_wp2_with fail
  refine (ref_Pair p fa fn fcap fl q ga gn gcap gl 5 w1 (hf.mono hx1.below) (hg.mono hx1.below) hp hq (by omega)).mono ?_
  rintro e w2 ⟨rfl, hb2⟩
  have hx2 := hx1.mono hb2
  clear d0 d1 d2 d3 hb1 hb2 hbx hx1
  obtain ⟨⟨d0, d1⟩, d2, d3⟩ := K.out w2 hx2
  cases hpair : pairB p fl q gl 5 with
  | false =>
    go_wp2
    go_ret
    exact ⟨rfl, hx2.below⟩
  | true =>
    obtain ⟨rfl, hfair, hfair'⟩ := pairB_true hpair
    obtain ⟨hlen, hcan, hpr, hp31⟩ := fairB_true hfair
    obtain ⟨hlen', hcan', _, _⟩ := fairB_true hfair'
    haveI hne : NeZero p := ⟨by have := hpr.1; omega⟩
    clear hfair hfair' hpair
    by_cases hf2 : fn < 2
    · have hf2' : (fn : Int) < 2 := by omega
      go_wp2
      go_ret
      exact ⟨rfl, hx2.below⟩
    have hf2' : ¬ (fn : Int) < 2 := by omega
    by_cases hg2 : gn < 2
    · have hg2' : (gn : Int) < 2 := by omega
      go_wp2
      go_ret
      exact ⟨rfl, hx2.below⟩
    have hg2' : ¬ (gn : Int) < 2 := by omega
    obtain ⟨hPE, hNH, hcm, hlm⟩ := never_prove hpr hcan hcan' (by omega) (by omega)
    have HPE := Alg.hid hPE
    have HNH := Alg.hid hNH
    have HCM := Alg.hid hcm
    have HMC := Alg.hid (mulL_ok (p := p) fl gl).2
    clear hPE hNH hcm
    go_wp2_with fail
    refine (law15_short 0 none 0 0 wa wn wcap WL w2 (hW.mono hx2.below) (by omega) H60.out).mono ?_
    rintro e w3 ⟨⟨b, rfl, hs⟩, hb3⟩
    have hx3 := hx2.mono hb3
    clear d0 d1 d2 d3 hx2 hb3
    obtain ⟨⟨d0, d1⟩, d2, d3⟩ := K.out w3 hx3
    cases b with
    | false =>
      go_wp2
      go_ret
      exact ⟨rfl, hx3.below⟩
    | true =>
    have hsh := hs rfl
    have hwn := hsh.2.1
    have HFEW := Alg.hid hsh.few
    clear hs hsh
    go_wp2_with fail
    refine (ppoly_Mul p fa fn fcap fl ga gn gcap gl (p : Int) w3 (hf.mono hx3.below) (hg.mono hx3.below) (by have := hpr.1; omega) hp (by omega) (by omega)).mono ?_
    rintro e w4 ⟨a1, n1, c1, rfl, s1, hb4, _⟩
    have l1 := s1.len
    have lml := mulL_len p fl gl
    have hx4 := hx3.mono hb4
    clear d0 d1 d2 d3 hx3 hb4
    go_wp2_with fail
    refine (ppoly_Monic p a1 n1 c1 (mulL p fl gl) w4 s1 HMC.out hpr.1 hp (by omega)).mono ?_
    rintro e w5 ⟨a2, n2, c2, rfl, s2, hb5⟩
    have l2 := s2.len
    have hx5 := hx4.mono hb5
    have x5 := Box.new w5 #[.int .u32 (p : Int), .slice a2 n2 c2] 25
    have hx6 := hx5.alloc_any (.cells #[.int .u32 (p : Int), .slice a2 n2 c2] 25)
    have hb6 := (Below.refl _ w5).alloc (Nat.le_refl _) (.cells #[.int .u32 (p : Int), .slice a2 n2 c2] 25)
    have d0 := x5.cell 0 _ rfl
    have d1 := x5.cell 1 _ rfl
    clear s1 hx4 hb5
    go_wp2_with fail
    have s3 := s2.mono hb6
    generalize hW6 : w5.alloc (.cells #[.int .u32 (p : Int), .slice a2 n2 c2] 25) = w6 at x5 hx6 s3 ⊢
    clear hW6 hb6 d0 d1 s2 hx5
    generalize hb0 : w5.heap.size = b0 at x5 ⊢
    clear hb0
    refine (deg_Prove p a2 n2 c2 (mnL p (mulL p fl gl)) w6 ((HFC.out p hp).mono hx6.below) s3 hpr hp HCM.out (by omega)).mono ?_
    intro e w7 hR
    obtain ⟨a3, n3, c3, va, vn, vcap, rfl, _, _, hb7⟩ : RetPI 0 [] [] 5 w6 e w7 := by
      rcases hR with ⟨h, _⟩ | ⟨_, h⟩
      · rw [HPE.out] at h; cases h
      · rw [HPE.out] at h; exact h
    clear hR
    have hx7 := hx6.mono hb7
    have x7 := x5.mono hb7
    have s4 := s3.mono hb7
    have hb8 := (Below.refl _ w7).alloc (Nat.le_refl _) (.cells #[.int .u32 0, .slice a3 n3 c3, .slice va vn vcap] 42)
    have hx8 := hx7.alloc_any (.cells #[.int .u32 0, .slice a3 n3 c3, .slice va vn vcap] 42)
    have x8 := x7.mono hb8
    have s5 := s4.mono hb8
    have d0 := x8.cell 0 _ rfl
    have d1 := x8.cell 1 _ rfl
    clear hx6 x5 s3 hb7 hx7 x7 s4
    go_wp2_with fail
    generalize hW8 : w7.alloc (.cells #[.int .u32 0, .slice a3 n3 c3, .slice va vn vcap] 42) = w8 at x8 hx8 s5 ⊢
    clear hW8 hb8 d0 d1
    refine (deg_Holds p a2 n2 c2 (mnL p (mulL p fl gl)) wa wn wcap WL w8 ((HFC.out p hp).mono hx8.below) s5 (hW.mono hx8.below) hp (by omega) (by omega) HFEW.out).mono ?_
    rw [HNH.out]
    rintro e w9 ⟨rfl, hb9⟩
    have hx9 := hx8.mono hb9
    go_wp2
    go_ret
    exact ⟨rfl, hx9.below⟩
end Go.Proofs.YtcbhoedifgghhaaDoor
end
section
open Alg Go Go.RowKit
namespace Go.Proofs.YtcbhoedifgghhaaDoor
open Go.RowKit
set_option maxRecDepth 100000 in
set_option maxHeartbeats 1200000 in
theorem product15_walk (p : Nat) (fa : Option Addr) (fn fcap : Nat) (fl : List Nat) (w : World) (hf : Sl w fa fn fcap fl) (hp : p < 4294967296) (hFC : ∀ q, q < 4294967296 → FieldC w q) :
    Calls Tryd.prog 4 #[.agg #[.int .u32 (p : Int), .slice fa fn fcap]] w fun e w' => e = .returned (.bool true) ∧ Below w.heap.size w w' := by
  have hbx := boxes1 w #[.int .u32 (p : Int), .slice fa fn fcap] 25
  have HFC := Alg.hid hFC
  have lf := hf.len
  clear hFC
  go_enter Tryd.func4, Tryd.ntmps4
  go_upto_region 1 with fail
  generalize hW0 : w.alloc (.cells #[.int .u32 (p : Int), .slice fa fn fcap] 25) = W0 at hbx ⊢
  clear hW0
  have K : Hid (∀ W, Boxes w W [#[.int .u32 (p : Int), .slice fa fn fcap]] → W.cell? ⟨w.heap.size, 0, none⟩ = some (.int .u32 (p : Int)) ∧ W.cell? ⟨w.heap.size, 1, none⟩ = some (.slice fa fn fcap)) := fun W h => ⟨h.cell' 0 0 _ _ rfl rfl, h.cell' 0 1 _ _ rfl rfl⟩
  go_wp2_with fail
  refine (awake15 W0 ((HFC.out 2 (by decide)).mono hbx.below)).mono ?_
  rintro e w1 ⟨rfl, hb1⟩
  have hx1 := hbx.mono hb1
  obtain ⟨d0, d1⟩ := K.out w1 hx1
  go_wp2_with fail
  refine (ref_Fair p fa fn fcap fl 10 w1 (hf.mono hx1.below) hp (by omega)).mono ?_
  rintro e w2 ⟨rfl, hb2⟩
  have hx2 := hx1.mono hb2
  clear d0 d1 hb1 hb2 hbx hx1
  obtain ⟨d0, d1⟩ := K.out w2 hx2
  cases hfair : fairB p fl 10 with
  | false =>
    go_wp2
    go_ret
    exact ⟨rfl, hx2.below⟩
  | true =>
    obtain ⟨hlen, hcan, hpr, hp31⟩ := fairB_true hfair
    haveI hne : NeZero p := ⟨by have := hpr.1; omega⟩
    clear hfair
    have hp0 : 0 < p := by have := hpr.1; omega
    go_wp2_with fail
    refine (deg_Parts p fa fn fcap fl w2 (hf.mono hx2.below) hpr hp hcan (by omega)).mono ?_
    intro e w3 hR
    obtain ⟨L, err, hP, a1, n1, c1, rfl, s1, hb3⟩ := hR.parts
    have hx3 := hx2.mono hb3
    have l1 := s1.len
    clear d0 d1 hR
    obtain ⟨d0, d1⟩ := K.out w3 hx3
    rcases hP with ⟨hok, ⟨n, hn, rfl⟩, rfl⟩ | ⟨_, rfl, rfl⟩
    rotate_left
    · obtain rfl : n1 = 0 := by simpa using l1.symm
      go_wp2
      go_ret
      exact ⟨rfl, hx3.below⟩
    rw [partsL_len] at l1
    subst l1
    have HOK := Alg.hid hok
    have HN := Alg.hid hn
    have hshort := hn.short hpr hcan hok
    have S1 := Alg.hid s1
    clear hok hn s1
    go_wp2_with fail
    refine (ref_One p w3).mono ?_
    rintro e w4 ⟨qa, qn, qc, rfl, sq, hb4, _⟩
    have hx4 := hx3.mono hb4
    have x4 := Box.new w4 #[.int .u32 (p : Int), .slice qa qn qc] 25
    have hx5 := Alg.hid (hx4.alloc_any (.cells #[.int .u32 (p : Int), .slice qa qn qc] 25))
    have hb5 := (Below.refl _ w4).alloc (Nat.le_refl _) (.cells #[.int .u32 (p : Int), .slice qa qn qc] 25)
    have hB5 := Alg.hid (bl hb4 hb5 hb4.size)
    have sq5 := Alg.hid (sq.mono hb5)
    have x5 := Alg.hid x4
    have hsz3 : w3.heap.size ≤ w4.heap.size := hb4.size
    have hsz0 : w.heap.size + 1 ≤ w3.heap.size := hx3.size
    clear d0 d1 hx3 hx4 x4 hb4 sq
    go_wp2
    generalize hW5 : w4.alloc (.cells #[.int .u32 (p : Int), .slice qa qn qc] 25) = w5 at x5 hx5 hB5 sq5 ⊢
    generalize hb0 : w4.heap.size = bQ at x5 hsz3 ⊢
    clear hW5 hb5 hb0
    go_loopw [6] (fun v wr => ∃ i : Nat, ∃ qa qn qc, v = .int .i64 i ∧ i ≤ n ∧ Hid (Boxes w wr [#[.int .u32 (p : Int), .slice fa fn fcap]]) ∧ Hid (Below w3.heap.size w3 wr) ∧ Hid (Box wr bQ #[.int .u32 (p : Int), .slice qa qn qc]) ∧ Hid (Sl wr qa qn qc (prP p fl i))) (fun v _ => n - (intOf v).toNat)
    case atStart => exact ⟨0, qa, qn, qc, rfl, Nat.zero_le _, hx5, hB5, x5, sq5⟩
    case round =>
      clear hx5 hB5 x5 sq5
      obtain ⟨i, qa, qn, qc, rfl, hi, hx, hB, xQ, sq⟩ := hrel
      have lq := sq.out.len
      have hq := prP_len hpr hcan HOK.out i
      by_cases hin : i < n
      · have hin' : (i : Int) < (n : Int) := by omega
        have hi0 : (0 : Int) ≤ (i : Int) := by omega
        have hiL : i < (partsL p fl n).length := by rw [partsL_len]; exact hin
        rcases S1.out.rd with h | ⟨b1, o1, rfl, _⟩
        · omega
        have t1 := (S1.out.mono hB.out).mono (bdrew (Below.refl _ wr))
        obtain ⟨a3, m3, c3, k0, k1, g1⟩ := t1.at i hiL
        have eL : (partsL p fl n)[i] = (p, gP p (rP p fl i) (i + 1)) := by simp [partsL]
        rw [eL] at k0 g1
        dsimp only at k0 g1
        have hgd := gP_deg hpr hcan HOK.out i
        have lg := g1.len
        rw [lg] at hgd
        obtain ⟨hgd1, hgd2, hgd3⟩ := hgd
        have hgi := (HOK.out.all hpr hcan i).g hpr (i + 1)
        have HGC := Alg.hid hgi.1
        have HR : Hid (rightB p (gP p (rP p fl i) (i + 1)) = true) := rightB_true.2 ⟨hgi.1, hpr, hp31⟩
        have HM : Hid (monB (gP p (rP p fl i) (i + 1)) = true) := monB_true.2 hgi.2.1
        have HPC := Alg.hid (prP_ok hpr hcan HOK.out i).1
        have HCO := Alg.hid (prP_cop hpr hcan HOK.out i)
        have hrem : ((m3 : Int) - 1) % ((i : Int) + 1) = 0 := by
          have e1 : ((m3 : Int) - 1) = ((m3 - 1 : Nat) : Int) := by omega
          have e2 : ((i : Int) + 1) = ((i + 1 : Nat) : Int) := by omega
          rw [e1, e2, ← Int.natCast_emod, hgd1]; rfl
        have hm0 : (0 : Int) ≤ (m3 : Int) - 1 := by omega
        have hi1 : (0 : Int) ≤ (i : Int) + 1 := by omega
        have htm : ((m3 : Int) - 1).tmod ((i : Int) + 1) = 0 := by rw [Int.tmod_eq_emod_of_nonneg hm0]; exact hrem
        have hnz : ¬ (i : Int) + 1 = 0 := by omega
        have hw1 : IntKind.i64.wrap ((i : Int) + 1) = (i : Int) + 1 := by rw [IntKind.wrap_i64]; omega
        have hw2 : ((((m3 : Int) - 1) % ((i : Int) + 1)) != 0) = false := by rw [hrem]; rfl
        have hsqd := sq.out.drew
        have KR : Hid (∀ W, Below wr.drew.heap.size wr.drew W → W.cell? ⟨b1, o1 + i * 2, none⟩ = some (.int .u32 (p : Int)) ∧ W.cell? ⟨b1, o1 + i * 2 + 1, none⟩ = some (.slice a3 m3 c3) ∧ W.cell? ⟨bQ, 0, none⟩ = some (.int .u32 (p : Int)) ∧ W.cell? ⟨bQ, 1, none⟩ = some (.slice qa qn qc)) := fun W h => ⟨(h.cell (cell_lt k0)).trans k0, (h.cell (cell_lt k1)).trans k1, (xQ.out.drew.mono h).cell 0 _ rfl, (xQ.out.drew.mono h).cell 1 _ rfl⟩
        have hR0 : Below wr.drew.heap.size wr.drew wr.drew := Below.refl _ _
        clear k0 k1 t1 eL hgi hgd1
        go_upto_region 12 with fail
        refine wp_region_noPanic ?_
        refine wp_region_held2 35 [(1, 0), (1, 1), (1, 2), (1, 3), (0, 4), (1, 5), (1, 6), (1, 7), (1, 8), (1, 9), (1, 10), (0, 11), (1, 12), (1, 13), (1, 14), (1, 15), (1, 16), (1, 17), (1, 18), (1, 20), (1, 21), (0, 19), (1, 22), (1, 23), (1, 24), (1, 25), (1, 26), (1, 27), (1, 28), (1, 29), (1, 30), (0, 31), (1, 32), (0, 33), (1, 34), (3, 35)] (fun W => W.cell? ⟨b1, o1 + i * 2, none⟩ = some (.int .u32 (p : Int)) ∧ W.cell? ⟨b1, o1 + i * 2 + 1, none⟩ = some (.slice a3 m3 c3) ∧ W.cell? ⟨bQ, 0, none⟩ = some (.int .u32 (p : Int)) ∧ W.cell? ⟨bQ, 1, none⟩ = some (.slice qa qn qc)) (fun _ => True) (by kernel_rfl) (by kernel_rfl) (fun _ _ _ _ _ h => h) (fun _ _ => trivial) (KR.out _ hR0) (fun _ => ?_)
        simp only [pick2, List.getElem?_cons_succ, List.getElem?_cons_zero]
        iterate 4
          (refine held2_early (v := ?_) (by rfl) ?_ ?_
           rotate_left
           · intro W hSw; (try dsimp only at hSw); go_simp; (try with_reducible rfl)
           try simp only [Act.put, List.setIfInBounds_toArray, List.set_cons_zero, List.set_cons_succ])
        refine held2_loud (fun K' hK => ?_)
        go_simp
        refine (ppoly_Right p a3 m3 c3 (gP p (rP p fl i) (i + 1)) wr.drew (((HFC.out p hp).mono hx.out.below).mono (bdrew (Below.refl _ wr))) g1 (by omega)).mono ?_
        rw [HR.out]
        rintro e v1 ⟨rfl, hc1⟩
        have r1 := hc1
        refine hK.out _ _ (KR.out _ r1) (fun _ => ?_)
        clear hK K'
        try simp only [Act.put, List.setIfInBounds_toArray, List.set_cons_zero, List.set_cons_succ]
        iterate 6
          (refine held2_early (v := ?_) (by rfl) ?_ ?_
           rotate_left
           · intro W hSw; (try dsimp only at hSw); go_simp; (try with_reducible rfl)
           try simp only [Act.put, List.setIfInBounds_toArray, List.set_cons_zero, List.set_cons_succ])
        refine held2_loud (fun K' hK => ?_)
        go_simp
        refine (ref15_IsMonic (p : Int) a3 m3 c3 (gP p (rP p fl i) (i + 1)) v1 (g1.mono r1)).mono ?_
        rw [HM.out]
        rintro e v2 ⟨rfl, hc2⟩
        have r2 := btrans r1 hc2
        refine hK.out _ _ (KR.out _ r2) (fun _ => ?_)
        clear hK K'
        try simp only [Act.put, List.setIfInBounds_toArray, List.set_cons_zero, List.set_cons_succ]
        iterate 9
          (refine held2_early (v := ?_) (by rfl) ?_ ?_
           rotate_left
           · intro W hSw; (try dsimp only at hSw); go_simp; (try with_reducible rfl)
           try simp only [Act.put, List.setIfInBounds_toArray, List.set_cons_zero, List.set_cons_succ])
        refine held2_loud (fun K' hK => ?_)
        go_simp
        refine (ppoly_Deg (p : Int) a3 m3 c3 v2 (by omega)).mono ?_
        rintro e v3 ⟨rfl, hc3⟩
        have r3 := btrans r2 hc3
        refine hK.out _ _ (KR.out _ r3) (fun _ => ?_)
        clear hK K'
        try simp only [Act.put, List.setIfInBounds_toArray, List.set_cons_zero, List.set_cons_succ]
        iterate 9
          (refine held2_early (v := ?_) (by rfl) ?_ ?_
           rotate_left
           · intro W hSw; (try dsimp only at hSw); go_simp; (try with_reducible rfl)
           try simp only [Act.put, List.setIfInBounds_toArray, List.set_cons_zero, List.set_cons_succ])
        refine held2_loud (fun K' hK => ?_)
        go_simp
        refine (ppoly_Gcd p qa qn qc (prP p fl i) a3 m3 c3 (gP p (rP p fl i) (i + 1)) v3 (hsqd.mono r3) (g1.mono r3) hpr hp (by omega) (by omega) HPC.out HGC.out).mono ?_
        rintro e v4 ⟨y1, z1, u1, y2, z2, u2, y3, z3, u3, rfl, h3, hc4⟩
        have r4 := btrans r3 hc4
        have lz := h3.g.len
        rw [HCO.out] at lz
        obtain rfl : z1 = 1 := lz.symm
        have fld := fun W => fld_pb p W y1 y2 y3 1 z2 z3 u1 u2 u3
        clear h3
        refine hK.out _ _ (KR.out _ r4) (fun _ => ?_)
        clear hK K'
        try simp only [Act.put, List.setIfInBounds_toArray, List.set_cons_zero, List.set_cons_succ]
        iterate 1
          (refine held2_early (v := ?_) (by rfl) ?_ ?_
           rotate_left
           · intro W hSw; (try dsimp only at hSw); go_simp; (try with_reducible rfl)
           try simp only [Act.put, List.setIfInBounds_toArray, List.set_cons_zero, List.set_cons_succ])
        refine held2_loud (fun K' hK => ?_)
        go_simp
        refine (ppoly_Deg (p : Int) y1 1 u1 v4 (by omega)).mono ?_
        rintro e v5 ⟨rfl, hc5⟩
        have r5 := btrans r4 hc5
        clear fld
        refine hK.out _ _ (KR.out _ r5) (fun _ => ?_)
        clear hK K'
        try simp only [Act.put, List.setIfInBounds_toArray, List.set_cons_zero, List.set_cons_succ]
        iterate 1
          (refine held2_early (v := ?_) (by rfl) ?_ ?_
           rotate_left
           · intro W hSw; (try dsimp only at hSw); go_simp; (try with_reducible rfl)
           try simp only [Act.put, List.setIfInBounds_toArray, List.set_cons_zero, List.set_cons_succ])
        refine held2_store (fun K' hK => ?_)
        go_simp
        refine hK.out _ _ trivial (fun _ => ?_)
        clear hK K'
        try simp only [Act.put, List.setIfInBounds_toArray, List.set_cons_zero, List.set_cons_succ]
        refine held2_nil ?_
        refine NoPanic.normal ?_
        have hx6 := hx.out.drew.mono r5
        have hB6 : Below w3.heap.size w3 v5 := bl hB.out (btrans (bdrew (Below.refl _ wr)) r5) hB.out.size
        have xQ6 := xQ.out.drew.mono r5
        have sq6 := hsqd.mono r5
        have g6 := g1.mono r5
        have K6 := KR.out v5 r5
        obtain ⟨k0, k1, k2, k3⟩ := K6
        have KR2 : Hid (∀ W, Below v5.drew.heap.size v5.drew W → W.cell? ⟨b1, o1 + i * 2, none⟩ = some (.int .u32 (p : Int)) ∧ W.cell? ⟨b1, o1 + i * 2 + 1, none⟩ = some (.slice a3 m3 c3) ∧ W.cell? ⟨bQ, 0, none⟩ = some (.int .u32 (p : Int)) ∧ W.cell? ⟨bQ, 1, none⟩ = some (.slice qa qn qc)) := fun W h => ⟨((btrans (bdrew (Below.refl _ v5)) h).cell (cell_lt k0)).trans k0, ((btrans (bdrew (Below.refl _ v5)) h).cell (cell_lt k1)).trans k1, (xQ6.drew.mono h).cell 0 _ rfl, (xQ6.drew.mono h).cell 1 _ rfl⟩
        have hR1 : Below v5.drew.heap.size v5.drew v5.drew := Below.refl _ _
        have HX6 := Alg.hid hx6
        have HB6 := Alg.hid hB6
        have XQ6 := Alg.hid xQ6
        clear KR hx xQ sq hB hsqd g1 hR0 r1 r2 r3 r4 r5 hc1 hc2 hc3 hc4 hc5 k0 k1 k2 k3 hx6 hB6 xQ6
        go_upto_region 14 with fail
        refine wp_region_noPanic ?_
        refine wp_region_held2 6 [(1, 0), (1, 1), (1, 2), (1, 3), (1, 4), (0, 5), (3, 6)] (fun W => W.cell? ⟨b1, o1 + i * 2, none⟩ = some (.int .u32 (p : Int)) ∧ W.cell? ⟨b1, o1 + i * 2 + 1, none⟩ = some (.slice a3 m3 c3) ∧ W.cell? ⟨bQ, 0, none⟩ = some (.int .u32 (p : Int)) ∧ W.cell? ⟨bQ, 1, none⟩ = some (.slice qa qn qc)) (fun _ => True) (by kernel_rfl) (by kernel_rfl) (fun _ _ _ _ _ h => h) (fun _ _ => trivial) (KR2.out _ hR1) (fun _ => ?_)
        simp only [pick2, List.getElem?_cons_succ, List.getElem?_cons_zero]
        iterate 5
          (refine held2_early (v := ?_) (by rfl) ?_ ?_
           rotate_left
           · intro W hSw; (try dsimp only at hSw); go_simp; (try with_reducible rfl)
           try simp only [Act.put, List.setIfInBounds_toArray, List.set_cons_zero, List.set_cons_succ])
        refine held2_loud (fun K' hK => ?_)
        go_simp
        refine (ppoly_Mul p qa qn qc (prP p fl i) a3 m3 c3 (gP p (rP p fl i) (i + 1)) (p : Int) v5.drew sq6.drew g6.drew hp0 hp (by omega) (by omega)).mono ?_
        rintro e v6 ⟨ya, yn, yc, rfl, sy, hc6, hpy⟩
        have xQ7 := XQ6.out.drew.mono hc6
        have z0 := xQ7.frozen 0
        have z1 := xQ7.frozen 1
        refine hK.out _ _ (KR2.out _ hc6) (fun _ => ?_)
        clear hK K'
        try simp only [Act.put, List.setIfInBounds_toArray, List.set_cons_zero, List.set_cons_succ]
        refine held2_store (fun K' hK => ?_)
        go_simp
        refine hK.out _ _ trivial (fun _ => ?_)
        clear hK K'
        try simp only [Act.put, List.setIfInBounds_toArray, List.set_cons_zero, List.set_cons_succ]
        refine held2_nil ?_
        refine NoPanic.normal ?_
        have of : Off ya yn bQ := hpy.off0 XQ6.out.drew.lt
        have hx7 := Alg.hid (((HX6.out.drew.mono hc6).setCell (g := bQ) (i := 0) (by simp only [List.length_cons, List.length_nil]; omega) (.int .u32 (p : Int))).setCell (g := bQ) (i := 1) (by simp only [List.length_cons, List.length_nil]; omega) (.slice ya yn yc))
        have hB7 := Alg.hid (((bl HB6.out (btrans (bdrew (Below.refl _ v5)) hc6) HB6.out.size).setCell (p := ⟨bQ, 0, none⟩) (by show w3.heap.size ≤ bQ; omega) (.int .u32 (p : Int))).setCell (p := ⟨bQ, 1, none⟩) (by show w3.heap.size ≤ bQ; omega) (.slice ya yn yc))
        have xQ8 := Alg.hid (xQ7.put2 (.int .u32 (p : Int)) (.slice ya yn yc))
        have sq8 : Hid (Sl ((v6.setCell ⟨bQ, 0, none⟩ (.int .u32 (p : Int))).setCell ⟨bQ, 1, none⟩ (.slice ya yn yc)) ya yn yc (prP p fl (i + 1))) := (sy.setCell of _).setCell of _
        clear KR2 HX6 HB6 XQ6 xQ7 sy of hc6 hpy z0 z1 sq6 g6 hR1
        go_wp2
        go_roundw
        case rel => exact ⟨i + 1, ya, yn, yc, by go_num, by omega, hx7, hB7, xQ8, sq8⟩
        case measure => simp [intOf]; omega
      · obtain rfl : i = n := by omega
        have hin' : ¬ (i : Int) < (i : Int) := by omega
        have hdone := prP_done hpr hcan HOK.out HN.out
        have sqf := sq.out
        rw [hdone] at sqf
        have HS : Hid (sameB p fl p fl = true) := sameB_true.2 ⟨rfl, rfl⟩
        have hqn : qn ≤ 1099511627776 := by omega
        obtain ⟨d0, d1⟩ := K.out wr hx.out
        have d2 := xQ.out.cell 0 _ rfl
        have d3 := xQ.out.cell 1 _ rfl
        clear hdone sq hq lq
        go_wp2_with fail
        refine (ref_Same p qa qn qc fl p fa fn fcap fl wr sqf (hf.mono hx.out.below) hqn).mono ?_
        rw [HS.out]
        rintro e v1 ⟨rfl, hc1⟩
        have hx1 := hx.out.mono hc1
        have hB1 := bl hB.out hc1 hB.out.size
        clear d0 d1 d2 d3 hx hB xQ sqf HS
        match i, S1, HN, hshort with
        | 0, _, _, _ =>
          go_wp2
          go_ret
          exact ⟨rfl, hx1.below⟩
        | m + 1, S1, HN, hshort =>
          have hlast := gP_last hpr hcan HOK.out HN.out
          rcases S1.out.rd with h | ⟨b1, o1, rfl, _⟩
          · omega
          have t1 := S1.out.mono hB1
          obtain ⟨a3, m3, c3, k0, k1, g1⟩ := t1.at m (by rw [partsL_len]; omega)
          have eL : (partsL p fl (m + 1))[m]'(by rw [partsL_len]; omega) = (p, gP p (rP p fl m) (m + 1)) := by simp [partsL]
          rw [eL] at k0 g1
          dsimp only at k0 g1
          have lg := g1.len
          rw [lg] at hlast
          have hm3 : (m3 : Int) - 1 > 0 := by omega
          have hm3' : (1 : Int) < (m3 : Int) := by omega
          have hm3n : 1 < m3 := by omega
          have hm3c := g1.cap
          have hm3l := g1.le
          have e1 : ((m + 1 : Nat) : Int) - 1 = (m : Int) := by omega
          have e2 : ((((m + 1 : Nat) : Int)) == 0) = false := by simp; omega
          have hi0 : (0 : Int) ≤ (m : Int) := by omega
          have hi1 : (m : Int) < ((m + 1 : Nat) : Int) := by omega
          clear eL t1
          go_wp2_with fail
          refine (ppoly_Deg (p : Int) a3 m3 c3 v1 (by omega)).mono ?_
          rintro e v2 ⟨rfl, hc2⟩
          have hx2 := hx1.mono hc2
          go_wp2
          go_ret
          refine ⟨?_, hx2.below⟩
          first
            | rfl
            | (simp [hm3n]; done)
            | (trace_state; fail)
end Go.Proofs.YtcbhoedifgghhaaDoor
end
