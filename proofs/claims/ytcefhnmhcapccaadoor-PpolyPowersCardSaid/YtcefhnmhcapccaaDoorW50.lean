/- The walk of PpolyPowers. -/
import Derived.Test.YtcefhnmhcapccaaDoorW49
import Derived.Test.YtcefhnmhcapccaaDoorW31
open Alg Go Go.RowKit
namespace Alg
/-- may a whole number be? -/
def rightI (neg : Bool) (l : List Nat) : Bool := if l.length = 0 then !neg else decide (nth l (l.length - 1) ≠ 0)
end Alg
namespace Go.Proofs.YtcefhnmhcapccaaDoor
open Go.RowKit
theorem ref03_Right (neg : Bool) (na : Option Addr) (nn ncap : Nat) (nl : List Nat) (w : World) (hN : Sl w na nn ncap nl) (hnn : nn ≤ 1000000000) :
    Calls Tryd.prog 41 #[.agg #[.bool neg, .slice na nn ncap]] w fun e w' => e = .returned (.bool (rightI neg nl)) ∧ Below w.heap.size w w' := by
  have hbx := boxes1 w #[.bool neg, .slice na nn ncap] 50
  have en := hN.len
  by_cases h0 : nn = 0
  · have HE : Hid (rightI neg nl = !neg) := by show _ = _; unfold rightI; rw [if_pos (by omega)]
    subst h0
    clear en
    rw [HE.out]
    go_enter Tryd.func41, Tryd.ntmps41
    go_wp2
    go_ret
    exact ⟨rfl, hbx.below⟩
  · rcases hN.rd with h | ⟨b, off, rfl, hc⟩
    · omega
    have hkm : nn - 1 < nn := by omega
    have c1 : (w.alloc (.cells #[.bool neg, .slice (some ⟨b, off, none⟩) nn ncap] 50)).cell? ⟨b, off + (nn - 1), none⟩ = some (.int .u32 (nth nl (nn - 1) : Nat)) := (hbx.below.cell (p := ⟨b, off + (nn - 1), none⟩) (cell_lt (hc (nn - 1) hkm))).trans (hc (nn - 1) hkm)
    have hq : ((nn : Int) == 0) = false := by simp; omega
    have s1 : (1 : Int) ≤ (nn : Int) := by omega
    have HB : Hid (rightI neg nl = decide (nth nl (nn - 1) ≠ 0)) := by show _ = _; unfold rightI; rw [if_neg (by omega), en]
    rw [HB.out]
    obtain ⟨bv, hbv⟩ : ∃ bv, bv = decide (nth nl (nn - 1) ≠ 0) := ⟨_, rfl⟩
    have hz : ((nth nl (nn - 1) : Int) != 0) = bv := by
      rw [hbv]
      by_cases h : nth nl (nn - 1) = 0
      · rw [h]; rfl
      · rw [decide_eq_true h]; simp [h]
    rw [← hbv]
    clear hc h0 en hbv
    generalize hW0 : (w.alloc (.cells #[.bool neg, .slice (some ⟨b, off, none⟩) nn ncap] 50)) = W0 at *
    have HW0 := Alg.hid hW0
    clear hW0
    have d0 : W0.cell? ⟨w.heap.size, 0, none⟩ = some (.bool neg) := hbx.cell' 0 0 _ _ rfl rfl
    have d1 : W0.cell? ⟨w.heap.size, 1, none⟩ = some (.slice (some ⟨b, off, none⟩) nn ncap) := hbx.cell' 0 1 _ _ rfl rfl
    go_enter Tryd.func41, Tryd.ntmps41
    go_upto_region 1 with fail
    rw [HW0.out]
    go_wp2
    go_ret
    exact ⟨by rw [← hz]; rfl, hbx.below⟩
/-- the power by both, or refused by both -/
theorem pow_both (p : Nat) (fa : Option Addr) (fn fcap : Nat) (fl : List Nat) (neg : Bool) (na : Option Addr) (nn ncap : Nat) (nl : List Nat) (ga : Option Addr) (gn gcap : Nat) (gl : List Nat) (w : World) (hf : Sl w fa fn fcap fl) (hN : Sl w na nn ncap nl) (hg : Sl w ga gn gcap gl)
    (hpr : IsPr p) (hp : p < 4294967296) (cf : Canon p fl) (cg : Canon p gl) (hr : rightI neg nl = true) (hfn : fn ≤ 100) (hgn : gn ≤ 100) (hnn : nn ≤ 3) :
    ∃ P l err, P < 4294967296 ∧ l.length ≤ 100 ∧ ∀ W, Below w.heap.size w W →
      Calls Tryd.prog 42 #[.agg #[.int .u32 (p : Int), .slice fa fn fcap], .agg #[.bool neg, .slice na nn ncap], .agg #[.int .u32 (p : Int), .slice ga gn gcap]] W (RetPE P l err W) ∧ Calls Tryd.prog 43 #[.agg #[.int .u32 (p : Int), .slice fa fn fcap], .agg #[.bool neg, .slice na nn ncap], .agg #[.int .u32 (p : Int), .slice ga gn gcap]] W (RetPE P l err W) := by
  haveI hne : NeZero p := ⟨by have := hpr.1; omega⟩
  cases neg with
  | true =>
    have hn0 : nn ≠ 0 := fun e => by
      unfold rightI at hr
      rw [hN.len, if_pos e] at hr
      cases hr
    exact ⟨0, [], 1, by omega, by simp, fun W hb => ⟨ppoly_PowMod_neg p fa fn fcap na nn ncap ga gn gcap W hn0 (by omega), ref_PowMod_neg p fa fn fcap na nn ncap ga gn gcap W⟩⟩
  | false =>
    by_cases hg0 : gn = 0
    · subst hg0
      exact ⟨0, [], 3, by omega, by simp, fun W hb => ⟨ppoly_PowMod_zero p fa fn fcap false na nn ncap ga gcap W (fun h => by cases h) (by omega), ref_PowMod_zero p fa fn fcap na nn ncap ga gcap W⟩⟩
    · have hgl : gl ≠ [] := fun e => by have := hg.len; rw [e] at this; simp at this; omega
      refine ⟨p, powL p fl gl (valN nl), 0, hp, by have := (powL_canon hpr cf cg hgl (valN nl)).2; have := hg.len; omega, fun W hb => ⟨?_, ?_⟩⟩
      · exact ppoly_PowMod p fa fn fcap fl false na nn ncap nl ga gn gcap gl W (hf.mono hb) (hN.mono hb) (hg.mono hb) hpr hp cf cg (fun h => by cases h) (by omega) (by omega) (by omega) (by omega)
      · exact ref_PowMod p fa fn fcap fl na nn ncap nl ga gn gcap gl W (hf.mono hb) (hN.mono hb) (hg.mono hb) hpr hp cf cg (by omega) (by omega) (by omega) (by omega)
theorem frob_both (p : Nat) (fa : Option Addr) (fn fcap : Nat) (fl : List Nat) (ga : Option Addr) (gn gcap : Nat) (gl : List Nat) (k : Int) (w : World) (hf : Sl w fa fn fcap fl) (hg : Sl w ga gn gcap gl)
    (hpr : IsPr p) (hp : p < 4294967296) (cf : Canon p fl) (cg : Canon p gl) (hfn : fn ≤ 100) (hgn : gn ≤ 100) :
    ∃ P l err, P < 4294967296 ∧ l.length ≤ 100 ∧ ∀ W, Below w.heap.size w W →
      Calls Tryd.prog 44 #[.agg #[.int .u32 (p : Int), .slice fa fn fcap], .agg #[.int .u32 (p : Int), .slice ga gn gcap], .int .i64 k] W (RetPE P l err W) ∧ Calls Tryd.prog 45 #[.agg #[.int .u32 (p : Int), .slice fa fn fcap], .agg #[.int .u32 (p : Int), .slice ga gn gcap], .int .i64 k] W (RetPE P l err W) := by
  haveI hne : NeZero p := ⟨by have := hpr.1; omega⟩
  by_cases h1 : k < 0
  · exact ⟨0, [], 2, by omega, by simp, fun W hb => ⟨ppoly_Frob_lo p fa fn fcap ga gn gcap k W h1, ref_Frob_lo p fa fn fcap ga gn gcap k W h1⟩⟩
  by_cases h2 : 1000 < k
  · exact ⟨0, [], 2, by omega, by simp, fun W hb => ⟨ppoly_Frob_hi p fa fn fcap ga gn gcap k W h2, ref_Frob_hi p fa fn fcap ga gn gcap k W h2⟩⟩
  obtain ⟨m, rfl⟩ : ∃ m : Nat, k = m := ⟨k.toNat, by omega⟩
  by_cases hg0 : gn = 0
  · subst hg0
    exact ⟨0, [], 3, by omega, by simp, fun W hb => ⟨ppoly_Frob_zero p fa fn fcap ga gcap m W (by omega), ref_Frob_zero p fa fn fcap ga gcap m W (by omega)⟩⟩
  · have hgl : gl ≠ [] := fun e => by have := hg.len; rw [e] at this; simp at this; omega
    refine ⟨p, frobL p fl gl m, 0, hp, by have := (frobL_ok hpr cf cg hgl m).len; have := hg.len; omega, fun W hb => ⟨?_, ?_⟩⟩
    · exact ppoly_Frob p fa fn fcap fl ga gn gcap gl m W (hf.mono hb) (hg.mono hb) hpr hp cf cg (by omega) (by omega) (by omega) (by omega)
    · exact ref_Frob p fa fn fcap fl ga gn gcap gl m W (hf.mono hb) (hg.mono hb) hpr hp cf cg (by omega) (by omega) (by omega) (by omega)
set_option maxRecDepth 100000 in
set_option maxHeartbeats 1000000 in
theorem powers_walk (hA : Awake) (p : Nat) (fa : Option Addr) (fn fcap : Nat) (fl : List Nat) (neg : Bool) (na : Option Addr) (nn ncap : Nat) (nl : List Nat) (q : Nat) (ga : Option Addr) (gn gcap : Nat) (gl : List Nat) (k : Int) (w : World)
    (hf : Sl w fa fn fcap fl) (hN : Sl w na nn ncap nl) (hg : Sl w ga gn gcap gl) (hp : p < 4294967296) (hq : q < 4294967296) :
    Calls Tryd.prog 9 #[.agg #[.int .u32 (p : Int), .slice fa fn fcap], .agg #[.bool neg, .slice na nn ncap], .agg #[.int .u32 (q : Int), .slice ga gn gcap], .int .i64 k] w fun e w' => e = .returned (.bool true) ∧ Below w.heap.size w w' := by
  have hB := (boxes2 w #[.int .u32 (p : Int), .slice fa fn fcap] #[.bool neg, .slice na nn ncap] 25 50).alloc (by simp) #[.int .u32 (q : Int), .slice ga gn gcap] 25
  have cn := hN.cap
  have ln := hN.le
  go_enter Tryd.func9, Tryd.ntmps9
  go_wp2_with fail
  refine (hA _).mono ?_
  rintro e w1 ⟨rfl, hb1⟩
  have hx1 := hB.mono hb1
  clear hB
  have K : Hid (∀ W, Boxes w W [#[.int .u32 (p : Int), .slice fa fn fcap], #[.bool neg, .slice na nn ncap], #[.int .u32 (q : Int), .slice ga gn gcap]] → W.cell? ⟨w.heap.size, 0, none⟩ = some (.int .u32 (p : Int)) ∧ W.cell? ⟨w.heap.size, 1, none⟩ = some (.slice fa fn fcap) ∧ W.cell? ⟨w.heap.size + 1, 0, none⟩ = some (.bool neg) ∧ W.cell? ⟨w.heap.size + 1, 1, none⟩ = some (.slice na nn ncap) ∧ W.cell? ⟨w.heap.size + 1 + 1, 0, none⟩ = some (.int .u32 (q : Int)) ∧ W.cell? ⟨w.heap.size + 1 + 1, 1, none⟩ = some (.slice ga gn gcap)) := fun W h => ⟨h.cell' 0 0 _ _ rfl rfl, h.cell' 0 1 _ _ rfl rfl, h.cell' 1 0 _ _ rfl rfl, h.cell' 1 1 _ _ rfl rfl, h.cell' 2 0 _ _ rfl rfl, h.cell' 2 1 _ _ rfl rfl⟩
  obtain ⟨d0, d1, d2, d3, d4, d5⟩ := K.out w1 hx1
  go_wp2_with fail
  refine (ref_Pair p fa fn fcap fl q ga gn gcap gl 8 w1 (hf.mono hx1.below) (hg.mono hx1.below) hp hq (by omega)).mono ?_
  rintro e w2 ⟨rfl, hb2⟩
  have hx2 := hx1.mono hb2
  clear d0 d1 d2 d3 d4 d5 hx1
  cases hpb : pairB p fl q gl 8 with
  | false =>
    go_wp2
    go_ret
    exact ⟨rfl, hx2.below⟩
  | true =>
  obtain ⟨rfl, lf, lg, cf, cg, hpr, hp2⟩ := pairB_true hpb
  clear hpb
  rw [hf.len] at lf
  rw [hg.len] at lg
  obtain ⟨d0, d1, d2, d3, d4, d5⟩ := K.out w2 hx2
  by_cases hn3 : 3 < nn
  · have hn3' : (3 : Int) < (nn : Int) := by omega
    go_wp2
    go_ret
    exact ⟨rfl, hx2.below⟩
  have hn3' : ¬ (3 : Int) < (nn : Int) := by omega
  go_wp2_with fail
  refine (ref03_Right neg na nn ncap nl w2 (hN.mono hx2.below) (by omega)).mono ?_
  rintro e w3 ⟨rfl, hb3⟩
  have hx3 := hx2.mono hb3
  clear d0 d1 d2 d3 d4 d5 hx2
  cases hri : rightI neg nl with
  | false =>
    go_wp2
    go_ret
    exact ⟨rfl, hx3.below⟩
  | true =>
  have HRI := Alg.hid hri
  clear hri
  by_cases hk : 12 < k ∧ k ≤ 1000
  · obtain ⟨hk1, hk2⟩ := hk
    go_wp2
    go_ret
    exact ⟨rfl, hx3.below⟩
  obtain ⟨P1, l1, e1, hP1, hl1, hC1⟩ := pow_both p fa fn fcap fl neg na nn ncap nl ga gn gcap gl w hf hN hg hpr hp cf cg HRI.out (by omega) (by omega) (by omega)
  obtain ⟨P2, l2, e2, hP2, hl2, hC2⟩ := frob_both p fa fn fcap fl ga gn gcap gl k w hf hg hpr hp cf cg (by omega) (by omega)
  have HC1 := Alg.hid hC1
  have HC2 := Alg.hid hC2
  have S1 := Alg.hid (sameB_true (p := P1) (l := l1) (q := P1) (l' := l1) |>.2 ⟨rfl, rfl⟩)
  have S2 := Alg.hid (sameB_true (p := P2) (l := l2) (q := P2) (l' := l2) |>.2 ⟨rfl, rfl⟩)
  clear hC1 hC2
  have E1 : (e1 == e1) = true := by simp
  have E2 : (e2 == e2) = true := by simp
  by_cases hk12 : 12 < k
  · have hk2 : ¬ k ≤ 1000 := fun h => hk ⟨hk12, h⟩
    clear hk
    go_upto_region 5 with fail
    obtain ⟨d0, d1, d2, d3, d4, d5⟩ := K.out w3 hx3
    go_wp2_with fail
    refine ((HC1.out w3 hx3.below).1).mono ?_
    rintro e wc0 ⟨xa, xn, xc, rfl, sx, hbx, _⟩
    have hgx : Below wc0.heap.size wc0 (wc0.alloc (.cells #[.int .u32 (P1 : Int), .slice xa xn xc] 25)) := (Below.refl _ _).alloc (Nat.le_refl _) _
    have hy0 := (hx3.mono hbx).mono hgx
    have xx := Box.new wc0 #[.int .u32 (P1 : Int), .slice xa xn xc] 25
    have tx := sx.mono hgx
    clear d0 d1 d2 d3 d4 d5 hx3
    go_upto_region 6 with fail
    generalize hgen : wc0.alloc (.cells #[.int .u32 (P1 : Int), .slice xa xn xc] 25) = wd0 at hy0 xx tx ⊢
    clear hgen hgx hbx sx
    obtain ⟨d0, d1, d2, d3, d4, d5⟩ := K.out wd0 hy0
    go_wp2_with fail
    refine ((HC1.out wd0 hy0.below).2).mono ?_
    rintro e wc1 ⟨ya, yn, yc, rfl, sy, hby, _⟩
    have hgy : Below wc1.heap.size wc1 (wc1.alloc (.cells #[.int .u32 (P1 : Int), .slice ya yn yc] 25)) := (Below.refl _ _).alloc (Nat.le_refl _) _
    have hy1 := (hy0.mono hby).mono hgy
    have xy := Box.new wc1 #[.int .u32 (P1 : Int), .slice ya yn yc] 25
    have ty := sy.mono hgy
    have xx := (xx.mono hby).mono hgy
    have tx := (tx.mono hby).mono hgy
    clear d0 d1 d2 d3 d4 d5 hy0
    go_upto_region 7 with fail
    generalize hgen : wc1.alloc (.cells #[.int .u32 (P1 : Int), .slice ya yn yc] 25) = wd1 at hy1 xx tx xy ty ⊢
    clear hgen hgy hby sy
    obtain ⟨d0, d1, d2, d3, d4, d5⟩ := K.out wd1 hy1
    go_wp2_with fail
    refine ((HC2.out wd1 hy1.below).1).mono ?_
    rintro e wc2 ⟨za, zn, zc, rfl, sz, hbz, _⟩
    have hgz : Below wc2.heap.size wc2 (wc2.alloc (.cells #[.int .u32 (P2 : Int), .slice za zn zc] 25)) := (Below.refl _ _).alloc (Nat.le_refl _) _
    have hy2 := (hy1.mono hbz).mono hgz
    have xz := Box.new wc2 #[.int .u32 (P2 : Int), .slice za zn zc] 25
    have tz := sz.mono hgz
    have xx := (xx.mono hbz).mono hgz
    have tx := (tx.mono hbz).mono hgz
    have xy := (xy.mono hbz).mono hgz
    have ty := (ty.mono hbz).mono hgz
    clear d0 d1 d2 d3 d4 d5 hy1
    go_upto_region 8 with fail
    generalize hgen : wc2.alloc (.cells #[.int .u32 (P2 : Int), .slice za zn zc] 25) = wd2 at hy2 xx tx xy ty xz tz ⊢
    clear hgen hgz hbz sz
    obtain ⟨d0, d1, d2, d3, d4, d5⟩ := K.out wd2 hy2
    go_wp2_with fail
    refine ((HC2.out wd2 hy2.below).2).mono ?_
    rintro e wc3 ⟨ua, un, uc, rfl, su, hbu, _⟩
    have hgu : Below wc3.heap.size wc3 (wc3.alloc (.cells #[.int .u32 (P2 : Int), .slice ua un uc] 25)) := (Below.refl _ _).alloc (Nat.le_refl _) _
    have hy3 := (hy2.mono hbu).mono hgu
    have xu := Box.new wc3 #[.int .u32 (P2 : Int), .slice ua un uc] 25
    have tu := su.mono hgu
    have xx := (xx.mono hbu).mono hgu
    have tx := (tx.mono hbu).mono hgu
    have xy := (xy.mono hbu).mono hgu
    have ty := (ty.mono hbu).mono hgu
    have xz := (xz.mono hbu).mono hgu
    have tz := (tz.mono hbu).mono hgu
    clear d0 d1 d2 d3 d4 d5 hy2
    go_upto_region 9 with fail
    generalize hgen : wc3.alloc (.cells #[.int .u32 (P2 : Int), .slice ua un uc] 25) = wd3 at hy3 xx tx xy ty xz tz xu tu ⊢
    clear hgen hgu hbu su
    have cx0 := xx.cell 0 _ rfl
    have cx1 := xx.cell 1 _ rfl
    have lx := tx.len
    have cy0 := xy.cell 0 _ rfl
    have cy1 := xy.cell 1 _ rfl
    have ly := ty.len
    have cz0 := xz.cell 0 _ rfl
    have cz1 := xz.cell 1 _ rfl
    have lz := tz.len
    have cu0 := xu.cell 0 _ rfl
    have cu1 := xu.cell 1 _ rfl
    have lu := tu.len
    go_wp2_with fail
    refine (ref_Same P1 xa xn xc l1 P1 ya yn yc l1 wd3 tx ty (by omega)).mono ?_
    rw [S1.out]
    rintro e we ⟨rfl, hbe⟩
    have hz := hy3.mono hbe
    have xz := xz.mono hbe
    have tz := tz.mono hbe
    have xu := xu.mono hbe
    have tu := tu.mono hbe
    clear cx0 cx1 cy0 cy1 cz0 cz1 cu0 cu1
    have cz0 := xz.cell 0 _ rfl
    have cz1 := xz.cell 1 _ rfl
    have cu0 := xu.cell 0 _ rfl
    have cu1 := xu.cell 1 _ rfl
    go_wp2_with fail
    refine (ref_Same P2 za zn zc l2 P2 ua un uc l2 we tz tu (by omega)).mono ?_
    rw [S2.out]
    rintro e wf ⟨rfl, hbf⟩
    have hz2 := hz.mono hbf
    go_wp2
    go_ret
    exact ⟨rfl, hz2.below⟩
  · clear hk
    go_upto_region 5 with fail
    obtain ⟨d0, d1, d2, d3, d4, d5⟩ := K.out w3 hx3
    go_wp2_with fail
    refine ((HC1.out w3 hx3.below).1).mono ?_
    rintro e wc0 ⟨xa, xn, xc, rfl, sx, hbx, _⟩
    have hgx : Below wc0.heap.size wc0 (wc0.alloc (.cells #[.int .u32 (P1 : Int), .slice xa xn xc] 25)) := (Below.refl _ _).alloc (Nat.le_refl _) _
    have hy0 := (hx3.mono hbx).mono hgx
    have xx := Box.new wc0 #[.int .u32 (P1 : Int), .slice xa xn xc] 25
    have tx := sx.mono hgx
    clear d0 d1 d2 d3 d4 d5 hx3
    go_upto_region 6 with fail
    generalize hgen : wc0.alloc (.cells #[.int .u32 (P1 : Int), .slice xa xn xc] 25) = wd0 at hy0 xx tx ⊢
    clear hgen hgx hbx sx
    obtain ⟨d0, d1, d2, d3, d4, d5⟩ := K.out wd0 hy0
    go_wp2_with fail
    refine ((HC1.out wd0 hy0.below).2).mono ?_
    rintro e wc1 ⟨ya, yn, yc, rfl, sy, hby, _⟩
    have hgy : Below wc1.heap.size wc1 (wc1.alloc (.cells #[.int .u32 (P1 : Int), .slice ya yn yc] 25)) := (Below.refl _ _).alloc (Nat.le_refl _) _
    have hy1 := (hy0.mono hby).mono hgy
    have xy := Box.new wc1 #[.int .u32 (P1 : Int), .slice ya yn yc] 25
    have ty := sy.mono hgy
    have xx := (xx.mono hby).mono hgy
    have tx := (tx.mono hby).mono hgy
    clear d0 d1 d2 d3 d4 d5 hy0
    go_upto_region 7 with fail
    generalize hgen : wc1.alloc (.cells #[.int .u32 (P1 : Int), .slice ya yn yc] 25) = wd1 at hy1 xx tx xy ty ⊢
    clear hgen hgy hby sy
    obtain ⟨d0, d1, d2, d3, d4, d5⟩ := K.out wd1 hy1
    go_wp2_with fail
    refine ((HC2.out wd1 hy1.below).1).mono ?_
    rintro e wc2 ⟨za, zn, zc, rfl, sz, hbz, _⟩
    have hgz : Below wc2.heap.size wc2 (wc2.alloc (.cells #[.int .u32 (P2 : Int), .slice za zn zc] 25)) := (Below.refl _ _).alloc (Nat.le_refl _) _
    have hy2 := (hy1.mono hbz).mono hgz
    have xz := Box.new wc2 #[.int .u32 (P2 : Int), .slice za zn zc] 25
    have tz := sz.mono hgz
    have xx := (xx.mono hbz).mono hgz
    have tx := (tx.mono hbz).mono hgz
    have xy := (xy.mono hbz).mono hgz
    have ty := (ty.mono hbz).mono hgz
    clear d0 d1 d2 d3 d4 d5 hy1
    go_upto_region 8 with fail
    generalize hgen : wc2.alloc (.cells #[.int .u32 (P2 : Int), .slice za zn zc] 25) = wd2 at hy2 xx tx xy ty xz tz ⊢
    clear hgen hgz hbz sz
    obtain ⟨d0, d1, d2, d3, d4, d5⟩ := K.out wd2 hy2
    go_wp2_with fail
    refine ((HC2.out wd2 hy2.below).2).mono ?_
    rintro e wc3 ⟨ua, un, uc, rfl, su, hbu, _⟩
    have hgu : Below wc3.heap.size wc3 (wc3.alloc (.cells #[.int .u32 (P2 : Int), .slice ua un uc] 25)) := (Below.refl _ _).alloc (Nat.le_refl _) _
    have hy3 := (hy2.mono hbu).mono hgu
    have xu := Box.new wc3 #[.int .u32 (P2 : Int), .slice ua un uc] 25
    have tu := su.mono hgu
    have xx := (xx.mono hbu).mono hgu
    have tx := (tx.mono hbu).mono hgu
    have xy := (xy.mono hbu).mono hgu
    have ty := (ty.mono hbu).mono hgu
    have xz := (xz.mono hbu).mono hgu
    have tz := (tz.mono hbu).mono hgu
    clear d0 d1 d2 d3 d4 d5 hy2
    go_upto_region 9 with fail
    generalize hgen : wc3.alloc (.cells #[.int .u32 (P2 : Int), .slice ua un uc] 25) = wd3 at hy3 xx tx xy ty xz tz xu tu ⊢
    clear hgen hgu hbu su
    have cx0 := xx.cell 0 _ rfl
    have cx1 := xx.cell 1 _ rfl
    have lx := tx.len
    have cy0 := xy.cell 0 _ rfl
    have cy1 := xy.cell 1 _ rfl
    have ly := ty.len
    have cz0 := xz.cell 0 _ rfl
    have cz1 := xz.cell 1 _ rfl
    have lz := tz.len
    have cu0 := xu.cell 0 _ rfl
    have cu1 := xu.cell 1 _ rfl
    have lu := tu.len
    go_wp2_with fail
    refine (ref_Same P1 xa xn xc l1 P1 ya yn yc l1 wd3 tx ty (by omega)).mono ?_
    rw [S1.out]
    rintro e we ⟨rfl, hbe⟩
    have hz := hy3.mono hbe
    have xz := xz.mono hbe
    have tz := tz.mono hbe
    have xu := xu.mono hbe
    have tu := tu.mono hbe
    clear cx0 cx1 cy0 cy1 cz0 cz1 cu0 cu1
    have cz0 := xz.cell 0 _ rfl
    have cz1 := xz.cell 1 _ rfl
    have cu0 := xu.cell 0 _ rfl
    have cu1 := xu.cell 1 _ rfl
    go_wp2_with fail
    refine (ref_Same P2 za zn zc l2 P2 ua un uc l2 we tz tu (by omega)).mono ?_
    rw [S2.out]
    rintro e wf ⟨rfl, hbf⟩
    have hz2 := hz.mono hbf
    go_wp2
    go_ret
    exact ⟨rfl, hz2.below⟩
end Go.Proofs.YtcefhnmhcapccaaDoor
