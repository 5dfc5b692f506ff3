/- The walk of PpolyRing. -/
import Derived.Test.YtcefhnmhcapccaaDoorA12
import Derived.Test.YtcefhnmhcapccaaDoorA11
import Derived.Test.YtcefhnmhcapccaaDoorW18
open Alg Go Go.RowKit
namespace Go.Proofs.YtcefhnmhcapccaaDoor
open Go.RowKit
theorem ppoly_AddL (p : Nat) (fa : Option Addr) (fn fcap : Nat) (fl : List Nat) (ga : Option Addr) (gn gcap : Nat) (gl : List Nat) (q : Int) (w : World) (hf : Sl w fa fn fcap fl) (hg : Sl w ga gn gcap gl)
    (hp0 : 0 < p) (hp : p < 4294967296) (hfn : fn ≤ 1099511627776) (hgn : gn ≤ 1099511627776) :
    Calls Tryd.prog 17 #[.agg #[.int .u32 p, .slice fa fn fcap], .agg #[.int .u32 q, .slice ga gn gcap]] w (RetP p (addL p fl gl) [] w) := by
  unfold addL
  rw [hf.len, hg.len]
  exact ppoly_Add p fa fn fcap fl ga gn gcap gl q w hf hg hp0 hp hfn hgn
set_option maxRecDepth 100000 in
set_option maxHeartbeats 4000000 in
theorem ring_walk (hA : Awake) (p : Nat) (fa : Option Addr) (fn fcap : Nat) (fl : List Nat) (q : Nat) (ga : Option Addr) (gn gcap : Nat) (gl : List Nat) (r : Nat) (ha : Option Addr) (hn hcap : Nat) (hl : List Nat) (a : Nat) (w : World) (hf : Sl w fa fn fcap fl) (hg : Sl w ga gn gcap gl) (hh : Sl w ha hn hcap hl) (hp : p < 4294967296) (hq : q < 4294967296) (hr : r < 4294967296) (hav : a < 4294967296) :
    Calls Tryd.prog 6 #[.agg #[.int .u32 (p : Int), .slice fa fn fcap], .agg #[.int .u32 (q : Int), .slice ga gn gcap], .agg #[.int .u32 (r : Int), .slice ha hn hcap], .int .u32 a] w fun e w' => e = .returned (.bool true) ∧ Below w.heap.size w w' := by
  have hbx := boxes3 w #[.int .u32 (p : Int), .slice fa fn fcap] #[.int .u32 (q : Int), .slice ga gn gcap] #[.int .u32 (r : Int), .slice ha hn hcap] 25 25 25
  go_enter Tryd.func6, Tryd.ntmps6
  go_wp2_with fail
  refine (hA _).mono ?_
  rintro e w1 ⟨rfl, hb1⟩
  have hx1 := hbx.mono hb1
  clear hbx
  have d0 : w1.cell? ⟨w.heap.size, 0, none⟩ = some (.int .u32 (p : Int)) := hx1.cell' 0 0 _ _ rfl rfl
  have d1 : w1.cell? ⟨w.heap.size, 1, none⟩ = some (.slice fa fn fcap) := hx1.cell' 0 1 _ _ rfl rfl
  have d2 : w1.cell? ⟨w.heap.size + 1, 0, none⟩ = some (.int .u32 (q : Int)) := hx1.cell' 1 0 _ _ rfl rfl
  have d3 : w1.cell? ⟨w.heap.size + 1, 1, none⟩ = some (.slice ga gn gcap) := hx1.cell' 1 1 _ _ rfl rfl
  go_wp2_with fail
  refine (ref_Pair p fa fn fcap fl q ga gn gcap gl 8 w1 (hf.mono hx1.below) (hg.mono hx1.below) hp hq (by omega)).mono ?_
  rintro e w2 ⟨rfl, hb2⟩
  have hx2 := hx1.mono hb2
  clear d0 d1 d2 d3 hx1
  cases hpb : pairB p fl q gl 8 with
  | false =>
    go_wp2
    go_ret
    exact ⟨rfl, hx2.below⟩
  | true =>
    obtain ⟨rfl, lf, lg, cf, cg, hpr, hp2⟩ := pairB_true hpb
    clear hpb
    have d0 : w2.cell? ⟨w.heap.size, 0, none⟩ = some (.int .u32 (p : Int)) := hx2.cell' 0 0 _ _ rfl rfl
    have d1 : w2.cell? ⟨w.heap.size, 1, none⟩ = some (.slice fa fn fcap) := hx2.cell' 0 1 _ _ rfl rfl
    have d2 : w2.cell? ⟨w.heap.size + 1 + 1, 0, none⟩ = some (.int .u32 (r : Int)) := hx2.cell' 2 0 _ _ rfl rfl
    have d3 : w2.cell? ⟨w.heap.size + 1 + 1, 1, none⟩ = some (.slice ha hn hcap) := hx2.cell' 2 1 _ _ rfl rfl
    go_wp2_with fail
    refine (ref_Pair p fa fn fcap fl r ha hn hcap hl 8 w2 (hf.mono hx2.below) (hh.mono hx2.below) hp hr (by omega)).mono ?_
    rintro e w3 ⟨rfl, hb3⟩
    have hx3 := hx2.mono hb3
    clear d0 d1 d2 d3 hx2
    cases hpb : pairB p fl r hl 8 with
    | false =>
      go_wp2
      go_ret
      exact ⟨rfl, hx3.below⟩
    | true =>
      obtain ⟨rfl, _, lh, _, ch, _, _⟩ := pairB_true hpb
      clear hpb
      rw [hf.len] at lf
      rw [hg.len] at lg
      rw [hh.len] at lh
      have hp0 : 0 < p := by have := hpr.1; omega
      haveI hne : NeZero p := ⟨by omega⟩
      have hfn : fn ≤ 1099511627776 := by omega
      have hgn : gn ≤ 1099511627776 := by omega
      have hhn : hn ≤ 1099511627776 := by omega
      obtain ⟨km, hkm0⟩ : ∃ km, km = a % p := ⟨_, rfl⟩
      have hkm : km < 4294967296 := by have := Nat.mod_lt a hp0; omega
      have m1 : (a : Int).tmod (p : Int) = (km : Int) := by rw [hkm0, Int.tmod_eq_emod_of_nonneg (by omega)]; simp
      have m2 : IntKind.u32.wrap (km : Int) = (km : Int) := IntWalk.u32_in _ (by omega)
      have m3 : IntKind.u64.wrap (p : Int) = (p : Int) := IntWalk.u64_in _ (by omega)
      have m4 : ((p : Int) == 0) = false := by simp; omega
      have m5 : ¬ p = 0 := by omega
      clear hkm0
      have E1 : Hid (sameB p (mulL p (mulL p fl gl) hl) p (mulL p fl (mulL p gl hl)) = true) := sameB_true.2 ⟨rfl, ring_assoc _ _ _⟩
      have E2 : Hid (sameB p (mulL p fl gl) p (mulL p gl fl) = true) := sameB_true.2 ⟨rfl, ring_comm _ _⟩
      have E3 : Hid (sameB p (mulL p fl (addL p gl hl)) p (addL p (mulL p fl gl) (mulL p fl hl)) = true) := sameB_true.2 ⟨rfl, ring_dist _ _ _⟩
      have E4 : Hid (sameB p (dfL p (mulL p fl gl)) p (addL p (mulL p (dfL p fl) gl) (mulL p fl (dfL p gl))) = true) := sameB_true.2 ⟨rfl, ring_diff _ _⟩
      have HX1 := Alg.hid (val_mul (p := p) fl gl km)
      have HX4 := Alg.hid (val_add (p := p) fl gl km)
      have HL1 := Alg.hid (valL_lt (p := p) (mulL p fl gl) km)
      have HL2 := Alg.hid (valL_lt (p := p) fl km)
      have HL3 := Alg.hid (valL_lt (p := p) gl km)
      have HL4 := Alg.hid (valL_lt (p := p) (addL p fl gl) km)
      obtain ⟨X1, V1⟩ : ∃ x, Hid (valL p (mulL p fl gl) km = x) := ⟨_, rfl⟩
      obtain ⟨X2, V2⟩ : ∃ x, Hid (valL p fl km = x) := ⟨_, rfl⟩
      obtain ⟨X3, V3⟩ : ∃ x, Hid (valL p gl km = x) := ⟨_, rfl⟩
      obtain ⟨X4, V4⟩ : ∃ x, Hid (valL p (addL p fl gl) km = x) := ⟨_, rfl⟩
      rw [V1.out, V2.out, V3.out] at HX1
      rw [V4.out, V2.out, V3.out] at HX4
      rw [V1.out] at HL1
      rw [V2.out] at HL2
      rw [V3.out] at HL3
      rw [V4.out] at HL4
      have b1 := HL1.out
      have b2 := HL2.out
      have b3 := HL3.out
      have b4 := HL4.out
      obtain ⟨bb1, bb2⟩ := cMul_le (a := X2) (b := X3) (by omega) (by omega)
      have z1 : IntKind.u64.wrap (X1 : Int) = (X1 : Int) := IntWalk.u64_in _ (by omega)
      have z2 : IntKind.u64.wrap (X2 : Int) = (X2 : Int) := IntWalk.u64_in _ (by omega)
      have z3 : IntKind.u64.wrap (X3 : Int) = (X3 : Int) := IntWalk.u64_in _ (by omega)
      have z4 : IntKind.u64.wrap (X4 : Int) = (X4 : Int) := IntWalk.u64_in _ (by omega)
      have z5 : IntKind.u64.wrap ((X2 : Int) * (X3 : Int)) = (X2 : Int) * (X3 : Int) := IntWalk.u64_in _ (by omega)
      have z6 : IntKind.u64.wrap ((X2 : Int) + (X3 : Int)) = (X2 : Int) + (X3 : Int) := IntWalk.u64_in _ (by omega)
      have z7 : ((X2 : Int) * (X3 : Int)).tmod (p : Int) = (X1 : Int) := by rw [Int.tmod_eq_emod_of_nonneg bb2, HX1.out]; simp
      have z8 : ((X2 : Int) + (X3 : Int)).tmod (p : Int) = (X4 : Int) := by rw [Int.tmod_eq_emod_of_nonneg (by omega), HX4.out]; simp
      have z9 : ((X1 : Int) != (X1 : Int)) = false := bne_no rfl
      have z10 : ((X4 : Int) != (X4 : Int)) = false := bne_no rfl
      clear b1 b2 b3 b4 bb1 bb2 HX1 HX4 HL1 HL2 HL3 HL4 cf cg ch
      have d0 : w3.cell? ⟨w.heap.size, 0, none⟩ = some (.int .u32 (p : Int)) := hx3.cell' 0 0 _ _ rfl rfl
      have d1 : w3.cell? ⟨w.heap.size, 1, none⟩ = some (.slice fa fn fcap) := hx3.cell' 0 1 _ _ rfl rfl
      have d2 : w3.cell? ⟨w.heap.size + 1, 0, none⟩ = some (.int .u32 (p : Int)) := hx3.cell' 1 0 _ _ rfl rfl
      have d3 : w3.cell? ⟨w.heap.size + 1, 1, none⟩ = some (.slice ga gn gcap) := hx3.cell' 1 1 _ _ rfl rfl
      go_wp2_with fail
      refine (ppoly_Mul p fa fn fcap fl ga gn gcap gl p w3 (hf.mono hx3.below) (hg.mono hx3.below) hp0 hp hfn hgn).mono ?_
      rintro e w4 ⟨ma, mn, mcap, rfl, hm4, hb4, _⟩
      have hy5 := boxes1 w4 #[.int .u32 (p : Int), .slice ma mn mcap] 25
      have hx5 := (hx3.mono hb4).mono hy5.below
      have hm := hm4
      have hmn : mn ≤ 18 := by
        have h1 := hm.len
        have h2 := mulL_len p fl gl
        have h3 := hf.len
        have h4 := hg.len
        omega
      clear d0 d1 d2 d3 hx3
      have K : Hid (∀ W, Boxes w W [#[.int .u32 (p : Int), .slice fa fn fcap], #[.int .u32 (p : Int), .slice ga gn gcap], #[.int .u32 (p : Int), .slice ha hn hcap]] → Boxes w4 W [#[.int .u32 (p : Int), .slice ma mn mcap]] → W.cell? ⟨w.heap.size, 0, none⟩ = some (.int .u32 (p : Int)) ∧ W.cell? ⟨w.heap.size, 1, none⟩ = some (.slice fa fn fcap) ∧ W.cell? ⟨w.heap.size + 1, 0, none⟩ = some (.int .u32 (p : Int)) ∧ W.cell? ⟨w.heap.size + 1, 1, none⟩ = some (.slice ga gn gcap) ∧ W.cell? ⟨w.heap.size + 1 + 1, 0, none⟩ = some (.int .u32 (p : Int)) ∧ W.cell? ⟨w.heap.size + 1 + 1, 1, none⟩ = some (.slice ha hn hcap) ∧ W.cell? ⟨w4.heap.size, 0, none⟩ = some (.int .u32 (p : Int)) ∧ W.cell? ⟨w4.heap.size, 1, none⟩ = some (.slice ma mn mcap) ∧ Boxes w W [#[.int .u32 (p : Int), .slice fa fn fcap], #[.int .u32 (p : Int), .slice ga gn gcap], #[.int .u32 (p : Int), .slice ha hn hcap]] ∧ Boxes w4 W [#[.int .u32 (p : Int), .slice ma mn mcap]]) :=
        fun W h h' => ⟨h.at0 rfl |>.1, h.at0 rfl |>.2, h.at1 rfl |>.1, h.at1 rfl |>.2, h.cell' 2 0 _ _ rfl rfl, h.cell' 2 1 _ _ rfl rfl, h'.at0 rfl |>.1, h'.at0 rfl |>.2, h, h'⟩
      go_wp2
      generalize hw5 : w4.alloc (.cells #[.int .u32 (p : Int), .slice ma mn mcap] 25) = w5 at hx5 hy5 ⊢
      clear hw5
      replace hx5 := hx5.drew
      replace hy5 := hy5.drew
      go_region_held3 (fun W => W.cell? ⟨w.heap.size, 0, none⟩ = some (.int .u32 (p : Int)) ∧ W.cell? ⟨w.heap.size, 1, none⟩ = some (.slice fa fn fcap) ∧ W.cell? ⟨w.heap.size + 1, 0, none⟩ = some (.int .u32 (p : Int)) ∧ W.cell? ⟨w.heap.size + 1, 1, none⟩ = some (.slice ga gn gcap) ∧ W.cell? ⟨w.heap.size + 1 + 1, 0, none⟩ = some (.int .u32 (p : Int)) ∧ W.cell? ⟨w.heap.size + 1 + 1, 1, none⟩ = some (.slice ha hn hcap) ∧ W.cell? ⟨w4.heap.size, 0, none⟩ = some (.int .u32 (p : Int)) ∧ W.cell? ⟨w4.heap.size, 1, none⟩ = some (.slice ma mn mcap) ∧ Boxes w W [#[.int .u32 (p : Int), .slice fa fn fcap], #[.int .u32 (p : Int), .slice ga gn gcap], #[.int .u32 (p : Int), .slice ha hn hcap]] ∧ Boxes w4 W [#[.int .u32 (p : Int), .slice ma mn mcap]])
        (first | (exact K.out _ (by assumption) (by assumption)) | fail)
        (first
          | (go_at_call 18; (with_reducible refine (ppoly_Mul p ma mn mcap (mulL p fl gl) ha hn hcap hl p w5.drew (hm.mono hy5.below) (hh.mono hx5.below) hp0 hp (by omega) (by omega)).mono ?_); rintro e w6 ⟨a6, n6, c6, rfl, hs6, hb6, _⟩; have hx6 := hx5.mono hb6; have hy6 := hy5.mono hb6; have hn6 : n6 ≤ 27 := (by have h1 := hs6.len; have h2 := mulL_len p (mulL p fl gl) hl; have h3 := Sl.len (hm.mono hy5.below); have h4 := Sl.len (hh.mono hx5.below); omega))
          | (go_at_call 18; (with_reducible refine (ppoly_Mul p ga gn gcap gl ha hn hcap hl p w6 (hg.mono hx6.below) (hh.mono hx6.below) hp0 hp (by omega) (by omega)).mono ?_); rintro e w7 ⟨a7, n7, c7, rfl, hs7, hb7, _⟩; have hx7 := hx6.mono hb7; have hy7 := hy6.mono hb7; have hn7 : n7 ≤ 18 := (by have h1 := hs7.len; have h2 := mulL_len p gl hl; have h3 := Sl.len (hg.mono hx6.below); have h4 := Sl.len (hh.mono hx6.below); omega))
          | (go_at_call 18; (with_reducible refine (ppoly_Mul p fa fn fcap fl a7 n7 c7 (mulL p gl hl) p w7 (hf.mono hx7.below) hs7 hp0 hp (by omega) (by omega)).mono ?_); rintro e w8 ⟨a8, n8, c8, rfl, hs8, hb8, _⟩; have hx8 := hx7.mono hb8; have hy8 := hy7.mono hb8; have hn8 : n8 ≤ 27 := (by have h1 := hs8.len; have h2 := mulL_len p fl (mulL p gl hl); have h3 := Sl.len (hf.mono hx7.below); have h4 := Sl.len hs7; omega))
          | (go_at_call 16; (with_reducible refine (ref_Same p a6 n6 c6 (mulL p (mulL p fl gl) hl) p a8 n8 c8 (mulL p fl (mulL p gl hl)) w8 ((hs6.mono hb7).mono hb8) hs8 (by omega)).mono ?_); rw [E1.out]; rintro e w9 ⟨rfl, hb9⟩; have hx9 := hx8.mono hb9; have hy9 := hy8.mono hb9)
          | (go_at_call 18; (with_reducible refine (ppoly_Mul p ga gn gcap gl fa fn fcap fl p w9 (hg.mono hx9.below) (hf.mono hx9.below) hp0 hp (by omega) (by omega)).mono ?_); rintro e w10 ⟨a10, n10, c10, rfl, hs10, hb10, _⟩; have hx10 := hx9.mono hb10; have hy10 := hy9.mono hb10; have hn10 : n10 ≤ 18 := (by have h1 := hs10.len; have h2 := mulL_len p gl fl; have h3 := Sl.len (hg.mono hx9.below); have h4 := Sl.len (hf.mono hx9.below); omega))
          | (go_at_call 16; (with_reducible refine (ref_Same p ma mn mcap (mulL p fl gl) p a10 n10 c10 (mulL p gl fl) w10 (hm.mono hy10.below) hs10 (by omega)).mono ?_); rw [E2.out]; rintro e w11 ⟨rfl, hb11⟩; have hx11 := hx10.mono hb11; have hy11 := hy10.mono hb11)
          | (go_at_call 17; (with_reducible refine (ppoly_AddL p ga gn gcap gl ha hn hcap hl p w11 (hg.mono hx11.below) (hh.mono hx11.below) hp0 hp (by omega) (by omega)).mono ?_); rintro e w12 ⟨a12, n12, c12, rfl, hs12, hb12, _⟩; have hx12 := hx11.mono hb12; have hy12 := hy11.mono hb12; have hn12 : n12 ≤ 9 := (by have h1 := hs12.len; have h2 := addL_len p gl hl; have h3 := Sl.len (hg.mono hx11.below); have h4 := Sl.len (hh.mono hx11.below); omega))
          | (go_at_call 18; (with_reducible refine (ppoly_Mul p fa fn fcap fl a12 n12 c12 (addL p gl hl) p w12 (hf.mono hx12.below) hs12 hp0 hp (by omega) (by omega)).mono ?_); rintro e w13 ⟨a13, n13, c13, rfl, hs13, hb13, _⟩; have hx13 := hx12.mono hb13; have hy13 := hy12.mono hb13; have hn13 : n13 ≤ 18 := (by have h1 := hs13.len; have h2 := mulL_len p fl (addL p gl hl); have h3 := Sl.len (hf.mono hx12.below); have h4 := Sl.len hs12; omega))
          | (go_at_call 18; (with_reducible refine (ppoly_Mul p fa fn fcap fl ha hn hcap hl p w13 (hf.mono hx13.below) (hh.mono hx13.below) hp0 hp (by omega) (by omega)).mono ?_); rintro e w14 ⟨a14, n14, c14, rfl, hs14, hb14, _⟩; have hx14 := hx13.mono hb14; have hy14 := hy13.mono hb14; have hn14 : n14 ≤ 18 := (by have h1 := hs14.len; have h2 := mulL_len p fl hl; have h3 := Sl.len (hf.mono hx13.below); have h4 := Sl.len (hh.mono hx13.below); omega))
          | (go_at_call 17; (with_reducible refine (ppoly_AddL p ma mn mcap (mulL p fl gl) a14 n14 c14 (mulL p fl hl) p w14 (hm.mono hy14.below) hs14 hp0 hp (by omega) (by omega)).mono ?_); rintro e w15 ⟨a15, n15, c15, rfl, hs15, hb15, _⟩; have hx15 := hx14.mono hb15; have hy15 := hy14.mono hb15; have hn15 : n15 ≤ 18 := (by have h1 := hs15.len; have h2 := addL_len p (mulL p fl gl) (mulL p fl hl); have h3 := Sl.len (hm.mono hy14.below); have h4 := Sl.len hs14; omega))
          | (go_at_call 16; (with_reducible refine (ref_Same p a13 n13 c13 (mulL p fl (addL p gl hl)) p a15 n15 c15 (addL p (mulL p fl gl) (mulL p fl hl)) w15 ((hs13.mono hb14).mono hb15) hs15 (by omega)).mono ?_); rw [E3.out]; rintro e w16 ⟨rfl, hb16⟩; have hx16 := hx15.mono hb16; have hy16 := hy15.mono hb16)
          | fail)
      go_wp2
      replace hx16 := hx16.drew
      replace hy16 := hy16.drew
      go_region_held3 (fun W => W.cell? ⟨w.heap.size, 0, none⟩ = some (.int .u32 (p : Int)) ∧ W.cell? ⟨w.heap.size, 1, none⟩ = some (.slice fa fn fcap) ∧ W.cell? ⟨w.heap.size + 1, 0, none⟩ = some (.int .u32 (p : Int)) ∧ W.cell? ⟨w.heap.size + 1, 1, none⟩ = some (.slice ga gn gcap) ∧ W.cell? ⟨w.heap.size + 1 + 1, 0, none⟩ = some (.int .u32 (p : Int)) ∧ W.cell? ⟨w.heap.size + 1 + 1, 1, none⟩ = some (.slice ha hn hcap) ∧ W.cell? ⟨w4.heap.size, 0, none⟩ = some (.int .u32 (p : Int)) ∧ W.cell? ⟨w4.heap.size, 1, none⟩ = some (.slice ma mn mcap) ∧ Boxes w W [#[.int .u32 (p : Int), .slice fa fn fcap], #[.int .u32 (p : Int), .slice ga gn gcap], #[.int .u32 (p : Int), .slice ha hn hcap]] ∧ Boxes w4 W [#[.int .u32 (p : Int), .slice ma mn mcap]])
        (first | (exact K.out _ (by assumption) (by assumption)) | fail)
        (first
          | (go_at_call 25; (with_reducible refine (ppoly_Value p km ma mn mcap (mulL p fl gl) w16.drew (hm.mono hy16.below) hp0 hp hkm (by omega)).mono ?_); rw [V1.out]; rintro e w17 ⟨rfl, hb17⟩; have hx17 := hx16.mono hb17; have hy17 := hy16.mono hb17)
          | (go_at_call 25; (with_reducible refine (ppoly_Value p km fa fn fcap fl w17 (hf.mono hx17.below) hp0 hp hkm (by omega)).mono ?_); rw [V2.out]; rintro e w18 ⟨rfl, hb18⟩; have hx18 := hx17.mono hb18; have hy18 := hy17.mono hb18)
          | (go_at_call 25; (with_reducible refine (ppoly_Value p km ga gn gcap gl w18 (hg.mono hx18.below) hp0 hp hkm (by omega)).mono ?_); rw [V3.out]; rintro e w19 ⟨rfl, hb19⟩; have hx19 := hx18.mono hb19; have hy19 := hy18.mono hb19)
          | (go_at_call 17; (with_reducible refine (ppoly_AddL p fa fn fcap fl ga gn gcap gl p w19 (hf.mono hx19.below) (hg.mono hx19.below) hp0 hp (by omega) (by omega)).mono ?_); rintro e w20 ⟨a20, n20, c20, rfl, hs20, hb20, _⟩; have hx20 := hx19.mono hb20; have hy20 := hy19.mono hb20; have hn20 : n20 ≤ 9 := (by have h1 := hs20.len; have h2 := addL_len p fl gl; have h3 := Sl.len (hf.mono hx19.below); have h4 := Sl.len (hg.mono hx19.below); omega))
          | (go_at_call 25; (with_reducible refine (ppoly_Value p km a20 n20 c20 (addL p fl gl) w20 hs20 hp0 hp hkm (by omega)).mono ?_); rw [V4.out]; rintro e w21 ⟨rfl, hb21⟩; have hx21 := hx20.mono hb21; have hy21 := hy20.mono hb21)
          | (go_at_call 25; (with_reducible refine (ppoly_Value p km fa fn fcap fl w21 (hf.mono hx21.below) hp0 hp hkm (by omega)).mono ?_); rw [V2.out]; rintro e w22 ⟨rfl, hb22⟩; have hx22 := hx21.mono hb22; have hy22 := hy21.mono hb22)
          | (go_at_call 25; (with_reducible refine (ppoly_Value p km ga gn gcap gl w22 (hg.mono hx22.below) hp0 hp hkm (by omega)).mono ?_); rw [V3.out]; rintro e w23 ⟨rfl, hb23⟩; have hx23 := hx22.mono hb23; have hy23 := hy22.mono hb23)
          | fail)
      go_wp2
      replace hx23 := hx23.drew
      replace hy23 := hy23.drew
      go_region_held3 (fun W => W.cell? ⟨w.heap.size, 0, none⟩ = some (.int .u32 (p : Int)) ∧ W.cell? ⟨w.heap.size, 1, none⟩ = some (.slice fa fn fcap) ∧ W.cell? ⟨w.heap.size + 1, 0, none⟩ = some (.int .u32 (p : Int)) ∧ W.cell? ⟨w.heap.size + 1, 1, none⟩ = some (.slice ga gn gcap) ∧ W.cell? ⟨w.heap.size + 1 + 1, 0, none⟩ = some (.int .u32 (p : Int)) ∧ W.cell? ⟨w.heap.size + 1 + 1, 1, none⟩ = some (.slice ha hn hcap) ∧ W.cell? ⟨w4.heap.size, 0, none⟩ = some (.int .u32 (p : Int)) ∧ W.cell? ⟨w4.heap.size, 1, none⟩ = some (.slice ma mn mcap) ∧ Boxes w W [#[.int .u32 (p : Int), .slice fa fn fcap], #[.int .u32 (p : Int), .slice ga gn gcap], #[.int .u32 (p : Int), .slice ha hn hcap]] ∧ Boxes w4 W [#[.int .u32 (p : Int), .slice ma mn mcap]])
        (first | (exact K.out _ (by assumption) (by assumption)) | fail)
        (first
          | (go_at_call 26; (with_reducible refine (ppoly_Diff p ma mn mcap (mulL p fl gl) w23.drew (hm.mono hy23.below) hp0 hp (by omega)).mono ?_); rintro e w24 ⟨a24, n24, c24, rfl, hs24, hb24, _⟩; have hx24 := hx23.mono hb24; have hy24 := hy23.mono hb24; have hn24 : n24 ≤ 18 := (by have h1 := hs24.len; have h2 := dfL_len (p := p) (mulL p fl gl); have h3 := Sl.len (hm.mono hy23.below); omega))
          | (go_at_call 26; (with_reducible refine (ppoly_Diff p fa fn fcap fl w24 (hf.mono hx24.below) hp0 hp (by omega)).mono ?_); rintro e w25 ⟨a25, n25, c25, rfl, hs25, hb25, _⟩; have hx25 := hx24.mono hb25; have hy25 := hy24.mono hb25; have hn25 : n25 ≤ 9 := (by have h1 := hs25.len; have h2 := dfL_len (p := p) fl; have h3 := Sl.len (hf.mono hx24.below); omega))
          | (go_at_call 18; (with_reducible refine (ppoly_Mul p a25 n25 c25 (dfL p fl) ga gn gcap gl p w25 hs25 (hg.mono hx25.below) hp0 hp (by omega) (by omega)).mono ?_); rintro e w26 ⟨a26, n26, c26, rfl, hs26, hb26, _⟩; have hx26 := hx25.mono hb26; have hy26 := hy25.mono hb26; have hn26 : n26 ≤ 18 := (by have h1 := hs26.len; have h2 := mulL_len p (dfL p fl) gl; have h3 := Sl.len hs25; have h4 := Sl.len (hg.mono hx25.below); omega))
          | (go_at_call 26; (with_reducible refine (ppoly_Diff p ga gn gcap gl w26 (hg.mono hx26.below) hp0 hp (by omega)).mono ?_); rintro e w27 ⟨a27, n27, c27, rfl, hs27, hb27, _⟩; have hx27 := hx26.mono hb27; have hy27 := hy26.mono hb27; have hn27 : n27 ≤ 9 := (by have h1 := hs27.len; have h2 := dfL_len (p := p) gl; have h3 := Sl.len (hg.mono hx26.below); omega))
          | (go_at_call 18; (with_reducible refine (ppoly_Mul p fa fn fcap fl a27 n27 c27 (dfL p gl) p w27 (hf.mono hx27.below) hs27 hp0 hp (by omega) (by omega)).mono ?_); rintro e w28 ⟨a28, n28, c28, rfl, hs28, hb28, _⟩; have hx28 := hx27.mono hb28; have hy28 := hy27.mono hb28; have hn28 : n28 ≤ 18 := (by have h1 := hs28.len; have h2 := mulL_len p fl (dfL p gl); have h3 := Sl.len (hf.mono hx27.below); have h4 := Sl.len hs27; omega))
          | (go_at_call 17; (with_reducible refine (ppoly_AddL p a26 n26 c26 (mulL p (dfL p fl) gl) a28 n28 c28 (mulL p fl (dfL p gl)) p w28 ((hs26.mono hb27).mono hb28) hs28 hp0 hp (by omega) (by omega)).mono ?_); rintro e w29 ⟨a29, n29, c29, rfl, hs29, hb29, _⟩; have hx29 := hx28.mono hb29; have hy29 := hy28.mono hb29; have hn29 : n29 ≤ 18 := (by have h1 := hs29.len; have h2 := addL_len p (mulL p (dfL p fl) gl) (mulL p fl (dfL p gl)); have h3 := Sl.len ((hs26.mono hb27).mono hb28); have h4 := Sl.len hs28; omega))
          | (go_at_call 16; (with_reducible refine (ref_Same p a24 n24 c24 (dfL p (mulL p fl gl)) p a29 n29 c29 (addL p (mulL p (dfL p fl) gl) (mulL p fl (dfL p gl))) w29 (((((hs24.mono hb25).mono hb26).mono hb27).mono hb28).mono hb29) hs29 (by omega)).mono ?_); rw [E4.out]; rintro e w30 ⟨rfl, hb30⟩; have hx30 := hx29.mono hb30; have hy30 := hy29.mono hb30)
          | fail)
      all_goals
        go_wp2
        go_ret
        exact ⟨rfl, hx30.below⟩
end Go.Proofs.YtcefhnmhcapccaaDoor
