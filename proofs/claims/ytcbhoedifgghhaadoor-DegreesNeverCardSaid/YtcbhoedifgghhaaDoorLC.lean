/- Law 15's awake answers true. The walks of DegreesHolds, DegreesProves, DegreesParts. -/
import Derived.Test.YtcbhoedifgghhaaDoorA28
import Derived.Test.YtcbhoedifgghhaaDoorL9
import Derived.Test.YtcbhoedifgghhaaDoorLA
import Derived.Test.YtcbhoedifgghhaaDoorL7
import Derived.Test.YtcbhoedifgghhaaDoorL8
import Derived.Test.YtcbhoedifgghhaaDoorLB
section
open Alg Go Go.RowKit
namespace Alg
theorem sl_vals (W : World) (T : TypeId) (l : List Nat) (hl : ∀ i, nth l i < 4294967296) (hlen : l.length ≤ 1000) {b : Nat} (h : b = W.heap.size) : Sl (W.alloc (.cells (vals l).toArray T)) (some ⟨b, 0, none⟩) l.length l.length l := by
  subst h
  refine ⟨rfl, Nat.le_refl _, by omega, hl, Or.inr ⟨_, _, rfl, fun i hi => ?_⟩⟩
  rw [cell_box, Nat.zero_add]
  have := vals_get l i hi
  simpa using this
theorem nth_lt_of (l : List Nat) (h : l.all (· < 4294967296) = true) (i : Nat) : nth l i < 4294967296 := by
  unfold nth
  rw [List.getD_eq_getElem?_getD]
  by_cases hi : i < l.length
  · rw [List.getElem?_eq_getElem hi]
    exact of_decide_eq_true (List.all_eq_true.1 h _ (List.getElem_mem hi))
  · rw [List.getElem?_eq_none (by omega)]; decide
end Alg
namespace Go.Proofs.YtcbhoedifgghhaaDoor
open Go.RowKit
set_option maxRecDepth 100000 in
set_option maxHeartbeats 1000000 in
theorem awake15 (w : World) (hFC : FieldC w 2) : Calls Tryd.prog 12 #[] w fun e w' => e = .returned (.bool true) ∧ Below w.heap.size w w' := by
  have HFC := Alg.hid hFC
  clear hFC
  go_enter Tryd.func12, Tryd.ntmps12
  have hs1 : Sl (w.alloc (.cells #[.int .u32 0, .int .u32 1, .int .u32 0, .int .u32 0, .int .u32 1] 22)) (some ⟨w.heap.size, 0, none⟩) 5 5 [0, 1, 0, 0, 1] := sl_vals w 22 [0, 1, 0, 0, 1] (nth_lt_of _ (by decide)) (by decide) rfl
  have xF := Box.new (w.alloc (.cells #[.int .u32 0, .int .u32 1, .int .u32 0, .int .u32 0, .int .u32 1] 22)) #[.int .u32 2, .slice (some ⟨w.heap.size, 0, none⟩) 5 5] 25
  have hb1 := ((Below.refl w.heap.size w).alloc (Nat.le_refl _) (.cells #[.int .u32 0, .int .u32 1, .int .u32 0, .int .u32 0, .int .u32 1] 22)).alloc (size_le_alloc _ _) (.cells #[.int .u32 2, .slice (some ⟨w.heap.size, 0, none⟩) 5 5] 25)
  have hs1 := hs1.mono ((Below.refl _ _).alloc (Nat.le_refl _) (.cells #[.int .u32 2, .slice (some ⟨w.heap.size, 0, none⟩) 5 5] 25))
  rw [World.size_alloc] at xF
  go_upto_region 2 with fail
  have z1 : ((w.alloc (.cells #[.int .u32 0, .int .u32 1, .int .u32 0, .int .u32 0, .int .u32 1] 22)).alloc (.cells #[.int .u32 2, .slice (some ⟨w.heap.size, 0, none⟩) 5 5] 25)).heap.size = w.heap.size + 2 := by rw [World.size_alloc, World.size_alloc]
  generalize hW1 : ((w.alloc (.cells #[.int .u32 0, .int .u32 1, .int .u32 0, .int .u32 0, .int .u32 1] 22)).alloc (.cells #[.int .u32 2, .slice (some ⟨w.heap.size, 0, none⟩) 5 5] 25)) = w1 at hs1 xF hb1 z1 ⊢
  clear hW1
  have d0 : w1.cell? ⟨w.heap.size + 1, 0, none⟩ = some (.int .u32 2) := xF.cell 0 _ rfl
  have d1 : w1.cell? ⟨w.heap.size + 1, 1, none⟩ = some (.slice (some ⟨w.heap.size, 0, none⟩) 5 5) := xF.cell 1 _ rfl
  go_wp2_with fail
  refine (deg_Parts 2 (some ⟨w.heap.size, 0, none⟩) 5 5 [0, 1, 0, 0, 1] w1 hs1 pr2 (by decide) canon_41 (by decide)).mono ?_
  intro e w2 hR
  obtain ⟨la, n, lc, rfl, hL, hb2⟩ : RetPL (partsL 2 [0, 1, 0, 0, 1] 2) 0 w1 e w2 := by
    rcases hR with ⟨_, i, hN, h⟩ | ⟨h, _⟩
    · have e := PtsN.unique hN pts_41
      subst e
      exact h
    · exact absurd ok_41 h
  rw [parts_41] at hL
  have ln := hL.len
  obtain rfl : n = 2 := ln.symm
  clear ln d0 d1
  have xF2 := xF.mono hb2
  have hs2 := hs1.mono hb2
  have hB2 := bl hb1 hb2 (by omega)
  have hs3 : Sl (w2.alloc (.cells #[.int .u32 1, .int .u32 1, .int .u32 1] 22)) (some ⟨w2.heap.size, 0, none⟩) 3 3 [1, 1, 1] := sl_vals w2 22 [1, 1, 1] (nth_lt_of _ (by decide)) (by decide) rfl
  have hb3 := (Below.refl _ w2).alloc (Nat.le_refl _) (.cells #[.int .u32 1, .int .u32 1, .int .u32 1] 22)
  clear xF hs1 hb1
  go_wp2_with fail
  have xF3 := xF2.mono hb3
  have hs4 := hs2.mono hb3
  have hL3 := hL.mono hb3
  have hB3 := bl hB2 hb3 hB2.size
  clear xF2 hs2 hL hB2
  generalize hW3 : (w2.alloc (.cells #[.int .u32 1, .int .u32 1, .int .u32 1] 22)) = w3 at hs3 xF3 hs4 hL3 hB3 ⊢
  clear hW3 hb3
  refine (deg_Prove 2 (some ⟨w2.heap.size, 0, none⟩) 3 3 [1, 1, 1] w3 (HFC.out.mono hB3) hs3 pr2 (by decide) canon_111 (by decide)).mono ?_
  intro e w4 hR
  obtain ⟨a, n, cap, wa, wn, wcap, rfl, hf, hW, hb4⟩ : RetPI 2 [1, 1, 1] (proveW 2 [1, 1, 1]) 0 w3 e w4 := by
    rcases hR with ⟨_, h⟩ | ⟨h, _⟩
    · exact h
    · exact absurd prove_111 h
  have xF4 := xF3.mono hb4
  have hs5 := hs4.mono hb4
  have hL4 := hL3.mono hb4
  have hB4 := bl hB3 hb4 hB3.size
  have ln := hf.len
  obtain rfl : n = 3 := ln.symm
  clear xF3 hs4 hL3 hB3 hb4 ln hs3
  have hb5 := (Below.refl _ w4).alloc (Nat.le_refl _) (.cells #[.int .u32 2, .slice a 3 cap, .slice wa wn wcap] 42)
  have xP := Box.new w4 #[.int .u32 2, .slice a 3 cap, .slice wa wn wcap] 42
  have xF5 := xF4.mono hb5
  have d0 : (w4.alloc (.cells #[.int .u32 2, .slice a 3 cap, .slice wa wn wcap] 42)).cell? ⟨w.heap.size + 1, 0, none⟩ = some (.int .u32 2) := xF5.cell 0 _ rfl
  have d1 : (w4.alloc (.cells #[.int .u32 2, .slice a 3 cap, .slice wa wn wcap] 42)).cell? ⟨w.heap.size + 1, 1, none⟩ = some (.slice (some ⟨w.heap.size, 0, none⟩) 5 5) := xF5.cell 1 _ rfl
  go_wp2_with fail
  have hs6 := hs5.mono hb5
  have hL5 := hL4.mono hb5
  have hB5 := bl hB4 hb5 hB4.size
  have hf5 := hf.mono hb5
  have hW5 := hW.mono hb5
  generalize hW5e : (w4.alloc (.cells #[.int .u32 2, .slice a 3 cap, .slice wa wn wcap] 42)) = w5 at xP xF5 d0 d1 hs6 hL5 hB5 hf5 hW5 ⊢
  obtain ⟨bP, hbP⟩ : ∃ b, b = w4.heap.size := ⟨_, rfl⟩
  rw [← hbP] at xP ⊢
  clear hbP hW5e hb5 xF4 hs5 hL4 hB4 hf hW d0 d1
  refine (deg_Prove 2 (some ⟨w.heap.size, 0, none⟩) 5 5 [0, 1, 0, 0, 1] w5 (HFC.out.mono hB5) hs6 pr2 (by decide) canon_41 (by decide)).mono ?_
  intro e w6 hR
  rw [show RetPv 2 [0, 1, 0, 0, 1] w5 e w6 = ((proveE 2 [0, 1, 0, 0, 1] = 0 ∧ RetPI 2 [0, 1, 0, 0, 1] (proveW 2 [0, 1, 0, 0, 1]) 0 w5 e w6) ∨ (proveE 2 [0, 1, 0, 0, 1] ≠ 0 ∧ RetPI 0 [] [] (proveE 2 [0, 1, 0, 0, 1]) w5 e w6)) from rfl, prove_41] at hR
  obtain ⟨a2, n2, cap2, wa2, wn2, wcap2, rfl, hf2, hW2, hb6⟩ : RetPI 0 [] [] 5 w5 e w6 := by
    rcases hR with ⟨h, _⟩ | ⟨_, h⟩
    · cases h
    · exact h
  have xP6 := xP.mono hb6
  have hL6 := hL5.mono hb6
  have hB6 := bl hB5 hb6 hB5.size
  have hf6 := hf5.mono hb6
  have hW6 := hW5.mono hb6
  clear hf2 hW2 xP xF5 hs6 hL5 hB5 hf5 hW5 hb6
  go_upto_region 5 with fail
  have hb7 := (Below.refl _ w6).alloc (Nat.le_refl _) (.cells #[.int .u32 0, .slice a2 n2 cap2, .slice wa2 wn2 wcap2] 42)
  have xP7 := xP6.mono hb7
  have hL7 := hL6.mono hb7
  have hB7 := bl hB6 hb7 hB6.size
  have hf7 := hf6.mono hb7
  have hW7 := hW6.mono hb7
  obtain ⟨b, off, rfl⟩ := hL7.ofPos (by decide)
  obtain ⟨vs, hc, a0, n0, c0, rfl, s0, _⟩ := hL7.nthAt 0 (by decide)
  obtain ⟨vs, hc', a1, n1, c1, rfl, s1, _⟩ := hL7.nthAt 1 (by decide)
  have ln := s0.len
  obtain rfl : n0 = 3 := ln.symm
  have ln := s1.len
  obtain rfl : n1 = 3 := ln.symm
  clear ln
  have k0 := hc 0 (by decide)
  have k1 := hc 1 (by decide)
  have k2 := hc' 0 (by decide)
  have k3 := hc' 1 (by decide)
  simp only [show kPoly.sz = 2 from rfl, Nat.zero_mul, Nat.one_mul, Nat.add_zero, List.getElem?_cons_zero, List.getElem?_cons_succ] at k0 k1 k2 k3
  have k0 : (w6.alloc (.cells #[.int .u32 0, .slice a2 n2 cap2, .slice wa2 wn2 wcap2] 42)).cell? ⟨b, off, none⟩ = some (.int .u32 2) := k0
  have k1 : (w6.alloc (.cells #[.int .u32 0, .slice a2 n2 cap2, .slice wa2 wn2 wcap2] 42)).cell? ⟨b, off + 1, none⟩ = some (.slice a0 3 c0) := k1
  have k2 : (w6.alloc (.cells #[.int .u32 0, .slice a2 n2 cap2, .slice wa2 wn2 wcap2] 42)).cell? ⟨b, off + 2, none⟩ = some (.int .u32 2) := k2
  have k3 : (w6.alloc (.cells #[.int .u32 0, .slice a2 n2 cap2, .slice wa2 wn2 wcap2] 42)).cell? ⟨b, off + 3, none⟩ = some (.slice a1 3 c1) := k3
  clear hc hc' s0 s1 hL7 hL6 xP6 hB6 hf6 hW6
  generalize hW7 : (w6.alloc (.cells #[.int .u32 0, .slice a2 n2 cap2, .slice wa2 wn2 wcap2] 42)) = w7 at k0 k1 k2 k3 xP7 hB7 hf7 hW7 ⊢
  go_wp2_with fail
  refine (ppoly_Deg 2 a0 3 c0 w7 (by decide)).mono ?_
  rintro e w8 ⟨rfl, hb8⟩
  have k2 := (hb8.cell (cell_lt k2)).trans k2
  have k3 := (hb8.cell (cell_lt k3)).trans k3
  have xP8 := xP7.mono hb8
  have hB8 := bl hB7 hb8 hB7.size
  have hf8 := hf7.mono hb8
  have hW8 := hW7.mono hb8
  clear k0 k1 xP7 hB7 hf7 hW7
  go_wp2_with fail
  refine (ppoly_Deg 2 a1 3 c1 w8 (by decide)).mono ?_
  rintro e w9 ⟨rfl, hb9⟩
  have xP9 := xP8.mono hb9
  have hB9 := bl hB8 hb9 hB8.size
  have hf9 := hf8.mono hb9
  have hW9 := hW8.mono hb9
  clear k2 k3 xP8 hB8 hf8 hW8 hb8 hb9
  have k0 := xP9.cell 0 _ rfl
  have k1 := xP9.cell 1 _ rfl
  have k2 := xP9.cell 2 _ rfl
  have hH := proveE_holds prove_111
  have lW := hW9.len
  go_wp2_with fail
  refine (deg_Holds 2 a 3 cap [1, 1, 1] wa wn wcap (proveW 2 [1, 1, 1]) w9 (HFC.out.mono hB9) hf9 hW9 (by decide) (by decide) ?_ ?_).mono ?_
  · have h1 : (proveW 2 [1, 1, 1]).length = (prl 2).length := by unfold proveW; rw [List.length_map]; rfl
    have h2 := prl_len 2
    omega
  · haveI : NeZero 2 := ⟨by decide⟩
    exact proveW_few (by decide) fun k => by
      have h := (apL_md pr2 canon_111 (by decide) k).len
      have h2 : ([1, 1, 1] : List Nat).length = 3 := rfl
      omega
  rw [hH]
  rintro e w10 ⟨rfl, hb10⟩
  have hB10 := bl hB9 hb10 hB9.size
  go_wp2
  go_ret
  exact ⟨rfl, hB10⟩
end Go.Proofs.YtcbhoedifgghhaaDoor
end
section
open Alg Go Go.RowKit
namespace Alg
theorem ShortP.few {fn wn : Nat} {WL : List PB} (h : ShortP fn wn WL) : FewB WL := fun x hx => by
  have := h.2.2 x hx
  refine ⟨?_, ?_, ?_⟩ <;> omega
theorem fairB_true {p : Nat} {l : List Nat} {m : Nat} (h : fairB p l m = true) : l.length ≤ m + 1 ∧ Canon p l ∧ IsPr p ∧ p < 2147483648 := by
  unfold fairB at h
  rw [Bool.and_eq_true] at h
  exact ⟨of_decide_eq_true h.1, rightB_true.1 h.2⟩
end Alg
namespace Go.Proofs.YtcbhoedifgghhaaDoor
open Go.RowKit
set_option maxRecDepth 100000 in
set_option maxHeartbeats 800000 in
theorem holds15_walk (p : Nat) (fa : Option Addr) (fn fcap : Nat) (fl : List Nat) (wa : Option Addr) (wn wcap : Nat) (WL : List PB) (w : World) (hFC : ∀ q, q < 4294967296 → FieldC w q) (hf : Sl w fa fn fcap fl) (hW : SlB w wa wn wcap WL) (hp : p < 4294967296)
    (hb60 : ∀ x ∈ WL, x.G.length ≤ 35184372087808 ∧ x.U.length ≤ 35184372087808 ∧ x.V.length ≤ 35184372087808) :
    Calls Tryd.prog 7 #[.agg #[.int .u32 (p : Int), .slice fa fn fcap, .slice wa wn wcap]] w fun e w' => e = .returned (.bool true) ∧ Below w.heap.size w w' := by
  have hbx := boxes1 w #[.int .u32 (p : Int), .slice fa fn fcap, .slice wa wn wcap] 42
  have HFC := Alg.hid hFC
  have lef := hf.le
  have lcf := hf.cap
  have H60 := Alg.hid hb60
  clear hFC hb60
  go_enter Tryd.func7, Tryd.ntmps7
  go_upto_region 1 with fail
  generalize hW0 : w.alloc (.cells #[.int .u32 (p : Int), .slice fa fn fcap, .slice wa wn wcap] 42) = W0 at hbx ⊢
  clear hW0
  have K : Hid (∀ W, Boxes w W [#[.int .u32 (p : Int), .slice fa fn fcap, .slice wa wn wcap]] → W.cell? ⟨w.heap.size, 0, none⟩ = some (.int .u32 (p : Int)) ∧ W.cell? ⟨w.heap.size, 1, none⟩ = some (.slice fa fn fcap) ∧ W.cell? ⟨w.heap.size, 2, none⟩ = some (.slice wa wn wcap)) := fun W h => ⟨h.cell' 0 0 _ _ rfl rfl, h.cell' 0 1 _ _ rfl rfl, h.cell' 0 2 _ _ rfl rfl⟩
  go_wp2_with fail
  refine (awake15 W0 ((HFC.out 2 (by decide)).mono hbx.below)).mono ?_
  rintro e w1 ⟨rfl, hb1⟩
  have hx1 := hbx.mono hb1
  obtain ⟨d0, d1, d2⟩ := K.out w1 hx1
  go_wp2_with fail
  refine (law15_short p fa fn fcap wa wn wcap WL w1 (hW.mono hx1.below) (by omega) H60.out).mono ?_
  rintro e w2 ⟨⟨b, rfl, hs⟩, hb2⟩
  have hx2 := hx1.mono hb2
  clear d0 d1 d2
  obtain ⟨d0, d1, d2⟩ := K.out w2 hx2
  cases b with
  | false =>
    go_wp2
    go_ret
    exact ⟨rfl, hx2.below⟩
  | true =>
    have hsh := hs rfl
    have hfn := hsh.1
    have hwn := hsh.2.1
    have HFEW := Alg.hid hsh.few
    clear hs hsh
    have hxd := hx2.drew
    generalize hv : holdsIB p fl WL = v
    have HV := Alg.hid hv
    clear hv
    go_wp2
    clear d0 d1 d2
    refine wp_region_noPanic ?_
    refine wp_region_held2 5 [(1, 0), (1, 2), (0, 1), (0, 3), (1, 4), (3, 5)] (fun W => W.cell? ⟨w.heap.size, 0, none⟩ = some (.int .u32 (p : Int)) ∧ W.cell? ⟨w.heap.size, 1, none⟩ = some (.slice fa fn fcap) ∧ W.cell? ⟨w.heap.size, 2, none⟩ = some (.slice wa wn wcap)) (fun _ => True) (by kernel_rfl) (by kernel_rfl) (fun _ _ _ _ _ h => h) (fun _ _ => trivial) (K.out _ hxd) (fun _ => ?_)
    simp only [pick2, List.getElem?_cons_succ, List.getElem?_cons_zero]
    iterate 2
      (refine held2_early (v := ?_) (by rfl) ?_ ?_
       rotate_left
       · intro W hSw; (try dsimp only at hSw); go_simp; (try with_reducible rfl)
       try simp only [Act.put, List.setIfInBounds_toArray, List.set_cons_zero, List.set_cons_succ])
    refine held2_loud (fun K' hK => ?_)
    go_simp
    refine (deg_Holds p fa fn fcap fl wa wn wcap WL _ ((HFC.out p hp).mono hxd.below) (hf.mono hxd.below) (hW.mono hxd.below) hp (by omega) (by omega) HFEW.out).mono ?_
    rw [HV.out]
    rintro e w3 ⟨rfl, hb3⟩
    have hx3 := hxd.mono hb3
    refine hK.out _ _ (K.out _ hx3) (fun _ => ?_)
    clear hK K'
    try simp only [Act.put, List.setIfInBounds_toArray, List.set_cons_zero, List.set_cons_succ]
    refine held2_loud (fun K' hK => ?_)
    go_simp
    refine (ref15_Holds p fa fn fcap fl wa wn wcap WL w3 (hf.mono hx3.below) (hW.mono hx3.below) hp (by omega) (by omega) HFEW.out).mono ?_
    rw [HV.out]
    rintro e w4 ⟨rfl, hb4⟩
    have hx4 := hx3.mono hb4
    have hvv : (v == v) = true := beq_self_eq_true v
    refine hK.out _ _ (K.out _ hx4) (fun _ => ?_)
    clear hK K'
    try simp only [Act.put, List.setIfInBounds_toArray, List.set_cons_zero, List.set_cons_succ]
    iterate 1
      (refine held2_early (v := ?_) (by rfl) ?_ ?_
       rotate_left
       · intro W hSw; (try dsimp only at hSw); go_simp; (try with_reducible rfl)
       try simp only [Act.put, List.setIfInBounds_toArray, List.set_cons_zero, List.set_cons_succ])
    refine held2_store (fun K' hK => ?_)
    go_simp
    refine hK.out _ _ trivial (fun _ => ?_)
    clear hK K'
    try simp only [Act.put, List.setIfInBounds_toArray, List.set_cons_zero, List.set_cons_succ]
    refine held2_nil ?_
    refine NoPanic.normal ?_
    go_wp2
    go_ret
    exact ⟨rfl, hx4.below⟩
set_option maxRecDepth 100000 in
set_option maxHeartbeats 800000 in
theorem proves15_walk (p : Nat) (fa : Option Addr) (fn fcap : Nat) (fl : List Nat) (w : World) (hf : Sl w fa fn fcap fl) (hp : p < 4294967296) (hFC : ∀ q, q < 4294967296 → FieldC w q) :
    Calls Tryd.prog 5 #[.agg #[.int .u32 (p : Int), .slice fa fn fcap]] w fun e w' => e = .returned (.bool true) ∧ Below w.heap.size w w' := by
  have hbx := boxes1 w #[.int .u32 (p : Int), .slice fa fn fcap] 25
  have HFC := Alg.hid hFC
  have lef := hf.le
  have lcf := hf.cap
  have lf := hf.len
  clear hFC
  go_enter Tryd.func5, Tryd.ntmps5
  go_upto_region 1 with fail
  generalize hW0 : w.alloc (.cells #[.int .u32 (p : Int), .slice fa fn fcap] 25) = W0 at hbx ⊢
  clear hW0
  have K : Hid (∀ W, Boxes w W [#[.int .u32 (p : Int), .slice fa fn fcap]] → W.cell? ⟨w.heap.size, 0, none⟩ = some (.int .u32 (p : Int)) ∧ W.cell? ⟨w.heap.size, 1, none⟩ = some (.slice fa fn fcap)) := fun W h => ⟨h.cell' 0 0 _ _ rfl rfl, h.cell' 0 1 _ _ rfl rfl⟩
  go_wp2_with fail
  refine (awake15 W0 ((HFC.out 2 (by decide)).mono hbx.below)).mono ?_
  rintro e w1 ⟨rfl, hb1⟩
  have hx1 := hbx.mono hb1
  obtain ⟨d0, d1⟩ := K.out w1 hx1
  go_wp2_with fail
  refine (ref_Fair p fa fn fcap fl 9 w1 (hf.mono hx1.below) hp (by omega)).mono ?_
  rintro e w2 ⟨rfl, hb2⟩
  have hx2 := hx1.mono hb2
  clear d0 d1 hb1 hb2 hbx hx1
  obtain ⟨d0, d1⟩ := K.out w2 hx2
  cases hfair : fairB p fl 9 with
  | false =>
    go_wp2
    go_ret
    exact ⟨rfl, hx2.below⟩
  | true =>
    obtain ⟨hlen, hcan, hpr, hp31⟩ := fairB_true hfair
    haveI hne : NeZero p := ⟨by have := hpr.1; omega⟩
    clear hfair
    go_wp2_with fail
    refine (deg_Prove p fa fn fcap fl w2 ((HFC.out p hp).mono hx2.below) (hf.mono hx2.below) hpr hp hcan (by omega)).mono ?_
    intro e w3 hR
    clear d0 d1
    obtain ⟨P1, l1, L1, err, hPE, hcase, a1, n1, c1, va, vn, vcap, rfl, s1, sW1, hb3⟩ : ∃ (P1 : Nat) (l1 : List Nat) (L1 : List PB) (err : Int), proveE p fl = err ∧ ((err = 0 ∧ P1 = p ∧ l1 = fl ∧ L1 = proveW p fl) ∨ (err ≠ 0 ∧ P1 = 0 ∧ l1 = [] ∧ L1 = [])) ∧ RetPI P1 l1 L1 err w2 e w3 := by
      rcases hR with ⟨h, hR⟩ | ⟨h, hR⟩
      · exact ⟨_, _, _, _, h, Or.inl ⟨rfl, rfl, rfl, rfl⟩, hR⟩
      · exact ⟨_, _, _, _, rfl, Or.inr ⟨h, rfl, rfl, rfl⟩, hR⟩
    clear hR
    have hx3 := hx2.mono hb3
    have x3 := Box.new w3 #[.int .u32 (P1 : Int), .slice a1 n1 c1, .slice va vn vcap] 42
    have hx4 := hx3.alloc_any (.cells #[.int .u32 (P1 : Int), .slice a1 n1 c1, .slice va vn vcap] 42)
    have hb4 := (Below.refl _ w3).alloc (Nat.le_refl _) (.cells #[.int .u32 (P1 : Int), .slice a1 n1 c1, .slice va vn vcap] 42)
    have hbb3 := hx3.below
    obtain ⟨d0, d1⟩ := K.out _ hx4
    go_wp2_with fail
    have s2 := s1.mono hb4
    have sW2 := sW1.mono hb4
    generalize hW4 : w3.alloc (.cells #[.int .u32 (P1 : Int), .slice a1 n1 c1, .slice va vn vcap] 42) = w4 at x3 hx4 s2 sW2 d0 d1 ⊢
    generalize hb0 : w3.heap.size = b0 at x3 ⊢
    clear hW4 hb4 hx3 s1 sW1 hx2 hb3 hb0
    refine (ref15_Prove p fa fn fcap fl w4 (hf.mono hx4.below) hpr hp hcan (by omega)).mono ?_
    intro e w5 hR
    clear d0 d1
    obtain ⟨L2, a2, n2, c2, ua, un, ucap, rfl, s5, sW5, hL2, hb5⟩ : ∃ L2 : List PB, ∃ a n c wa wn wcap, e = .returned (.tuple #[.agg #[.int .u32 (P1 : Int), .slice a n c, .slice wa wn wcap], .int .i64 err]) ∧ Sl w5 a n c l1 ∧ SlB w5 wa wn wcap L2 ∧ L2 = L1 ∧ Below w4.heap.size w4 w5 := by
      rcases hR with ⟨h, a, n, c, wa', wn', wc', he, h1, h2, h3⟩ | ⟨h, a, n, c, wa', wn', wc', he, h1, h2, h3⟩
      · rcases hcase with ⟨k1, rfl, rfl, rfl⟩ | ⟨k1, _⟩
        · exact ⟨_, a, n, c, wa', wn', wc', by rw [he, k1], h1, h2, rfl, h3⟩
        · exact absurd (hPE.symm.trans h) k1
      · rcases hcase with ⟨k1, _⟩ | ⟨k1, rfl, rfl, rfl⟩
        · exact absurd (hPE.trans k1) h
        · exact ⟨_, a, n, c, wa', wn', wc', by rw [he, hPE], h1, h2, rfl, h3⟩
    clear hR
    subst hL2
    have hx5 := hx4.mono hb5
    have x5 := x3.mono hb5
    have t1 := s2.mono hb5
    have tW1 := sW2.mono hb5
    have e1 := t1.len
    have e2 := s5.len
    have e3 := tW1.len
    have e4 := sW5.len
    have y5 := Box.new w5 #[.int .u32 (P1 : Int), .slice a2 n2 c2, .slice ua un ucap] 42
    have hx6 := hx5.alloc_any (.cells #[.int .u32 (P1 : Int), .slice a2 n2 c2, .slice ua un ucap] 42)
    have hb6 := (Below.refl _ w5).alloc (Nat.le_refl _) (.cells #[.int .u32 (P1 : Int), .slice a2 n2 c2, .slice ua un ucap] 42)
    have x6 := x5.mono hb6
    have t2 := t1.mono hb6
    have tW2 := tW1.mono hb6
    have s6 := s5.mono hb6
    have d0 := x6.cell 0 _ rfl
    have d1 := x6.cell 1 _ rfl
    have d2 := x6.cell 2 _ rfl
    have d3 := y5.cell 0 _ rfl
    have d4 := y5.cell 1 _ rfl
    have d5 := y5.cell 2 _ rfl
    have herr : (err != err) = false := by simp
    clear hx4 x3 s2 sW2 hb5 hx5 x5 t1 tW1
    go_wp2_with fail
    generalize hW6 : w5.alloc (.cells #[.int .u32 (P1 : Int), .slice a2 n2 c2, .slice ua un ucap] 42) = w6 at x6 y5 hx6 t2 tW2 s6 ⊢
    clear hW6 hb6 d0 d1 d2 d3 d4 d5
    have h11 : n1 ≤ 1099511627776 := by
      rcases hcase with ⟨_, rfl, rfl, rfl⟩ | ⟨_, rfl, rfl, rfl⟩
      · omega
      · simp at e1; omega
    refine (ref15_SamePapers P1 a1 n1 c1 l1 va vn vcap P1 a2 n2 c2 l1 ua un ucap w6 t2 s6 h11).mono ?_
    have hsame : (sameB P1 l1 P1 l1 && decide (vn = un)) = true := by rw [sameB_true.2 ⟨rfl, rfl⟩, decide_eq_true (by omega)]; rfl
    rw [hsame]
    rintro e w7 ⟨rfl, hb7⟩
    have hx7 := hx6.mono hb7
    have x7 := x6.mono hb7
    have t3 := t2.mono hb7
    have tW3 := tW2.mono hb7
    have d0 := x7.cell 0 _ rfl
    have d1 := x7.cell 1 _ rfl
    have d2 := x7.cell 2 _ rfl
    clear hsame hx6 x6 y5 t2 tW2 s6 hb7
    rcases hcase with ⟨rfl, rfl, rfl, rfl⟩ | ⟨hE, rfl, rfl, rfl⟩
    · have hH := proveE_holds hPE
      have HH := Alg.hid hH
      have hvn : vn ≤ 1000 := by
        have h1 : (proveW P1 l1).length = (prl (l1.length - 1)).length := by unfold proveW; rw [List.length_map]
        have h2 := prl_len (l1.length - 1)
        omega
      have HFEW : Hid (FewB (proveW P1 l1)) := by
        by_cases h0 : l1 = []
        · subst h0
          intro x hx
          have : (proveW P1 []).length ≤ 0 := by unfold proveW; rw [List.length_map]; exact prl_len 0
          have h2 := List.length_pos_of_mem hx
          omega
        · exact proveW_few (by omega) fun k => by
            have h := (apL_md hpr hcan h0 k).len
            omega
      go_wp2_with fail
      refine (ref15_Holds P1 a1 n1 c1 l1 va vn vcap (proveW P1 l1) w7 t3 tW3 hp (by omega) (by omega) HFEW.out).mono ?_
      rw [HH.out]
      rintro e w8 ⟨rfl, hb8⟩
      have hx8 := hx7.mono hb8
      have x8 := x7.mono hb8
      have t4 := t3.mono hb8
      have tW4 := tW3.mono hb8
      clear d0 d1 d2 hx7 x7 t3 tW3 hb8
      have d0 := x8.cell 0 _ rfl
      have d1 := x8.cell 1 _ rfl
      have d2 := x8.cell 2 _ rfl
      go_wp2_with fail
      refine (deg_Holds P1 a1 n1 c1 l1 va vn vcap (proveW P1 l1) w8 ((HFC.out P1 hp).mono hx8.below) t4 tW4 hp (by omega) (by omega) HFEW.out).mono ?_
      rw [HH.out]
      rintro e w9 ⟨rfl, hb9⟩
      have hx9 := hx8.mono hb9
      go_wp2
      go_ret
      exact ⟨rfl, hx9.below⟩
    · have hq : (err != 0) = true := by simpa using hE
      go_wp2
      go_ret
      exact ⟨rfl, hx7.below⟩
end Go.Proofs.YtcbhoedifgghhaaDoor
end
