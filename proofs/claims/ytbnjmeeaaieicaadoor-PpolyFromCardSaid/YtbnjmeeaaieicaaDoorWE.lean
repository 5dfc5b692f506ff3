/- Contracts of the reference's Right and Same of whole numbers, and of law 09's same; the walk of PpolyFrom. -/
import Derived.Test.YtbnjmeeaaieicaaDoorWC
import Derived.Test.YtbnjmeeaaieicaaDoorWD
import Derived.Test.YtbnjmeeaaieicaaDoorW31
import Derived.Test.YtbnjmeeaaieicaaDoorE1
import Derived.Test.YtbnjmeeaaieicaaDoorHH
open Alg Go Go.RowKit
namespace Alg
/-- may a whole number be? -/
def rightZ (neg : Bool) (l : List Nat) : Bool := if l.length = 0 then !neg else decide (nth l (l.length - 1) ≠ 0)
theorem rightZ_canon {neg : Bool} {l : List Nat} (h : rightZ neg l = true) (hl : ∀ i, nth l i < 4294967296) : Canon 4294967296 l ∧ (neg = true → 0 < valN l) := by
  have hc : Canon 4294967296 l := (canon_iff rfl (by decide)).2 ⟨fun i _ => hl i, by
    unfold rightZ at h
    split at h
    · left; assumption
    · right; exact of_decide_eq_true h⟩
  refine ⟨hc, fun hn => ?_⟩
  unfold rightZ at h
  split at h
  · subst hn; cases h
  · rename_i h0
    rcases Nat.eq_zero_or_pos (valN l) with e | e
    · have := lim_valN hc
      rw [e, lim_zero] at this
      rw [← this] at h0
      exact absurd rfl h0
    · exact e
/-- a whole number of few limbs that may be -/
def FewZ (x : Bool × List Nat) : Prop := x.2.length ≤ 5 ∧ Canon 4294967296 x.2
end Alg
namespace Go.Proofs.YtbnjmeeaaieicaaDoor
open Go.RowKit
set_option maxRecDepth 100000 in
theorem ref03_RightZ (neg : Bool) (na : Option Addr) (nn ncap : Nat) (nl : List Nat) (w : World) (hN : Sl w na nn ncap nl) (hnn : nn ≤ 1000000000) :
    Calls Tryd.prog 55 #[.agg #[.bool neg, .slice na nn ncap]] w fun e w' => e = .returned (.bool (rightZ neg nl)) ∧ Below w.heap.size w w' := by
  have hbx := boxes1 w #[.bool neg, .slice na nn ncap] 25
  have en := hN.len
  by_cases h0 : nn = 0
  · have HE : Hid (rightZ neg nl = !neg) := by show _ = _; unfold rightZ; rw [if_pos (by omega)]
    subst h0
    clear en
    rw [HE.out]
    go_enter Tryd.func55, Tryd.ntmps55
    go_wp2
    go_ret
    exact ⟨rfl, hbx.below⟩
  · rcases hN.rd with h | ⟨b, off, rfl, hc⟩
    · omega
    have hkm : nn - 1 < nn := by omega
    have c1 : (w.alloc (.cells #[.bool neg, .slice (some ⟨b, off, none⟩) nn ncap] 25)).cell? ⟨b, off + (nn - 1), none⟩ = some (.int .u32 (nth nl (nn - 1) : Nat)) := (hbx.below.cell (p := ⟨b, off + (nn - 1), none⟩) (cell_lt (hc (nn - 1) hkm))).trans (hc (nn - 1) hkm)
    have hq : ((nn : Int) == 0) = false := by simp; omega
    have s1 : (1 : Int) ≤ (nn : Int) := by omega
    have HB : Hid (rightZ neg nl = decide (nth nl (nn - 1) ≠ 0)) := by show _ = _; unfold rightZ; rw [if_neg (by omega), en]
    rw [HB.out]
    obtain ⟨bv, hbv⟩ : ∃ bv, bv = decide (nth nl (nn - 1) ≠ 0) := ⟨_, rfl⟩
    have hz : ((nth nl (nn - 1) : Int) != 0) = bv := by
      rw [hbv]
      by_cases h : nth nl (nn - 1) = 0
      · rw [h]; rfl
      · rw [decide_eq_true h]; simp [h]
    rw [← hbv]
    clear hc h0 en hbv
    generalize hW0 : (w.alloc (.cells #[.bool neg, .slice (some ⟨b, off, none⟩) nn ncap] 25)) = W0 at *
    have HW0 := Alg.hid hW0
    clear hW0
    have d0 : W0.cell? ⟨w.heap.size, 0, none⟩ = some (.bool neg) := hbx.cell' 0 0 _ _ rfl rfl
    have d1 : W0.cell? ⟨w.heap.size, 1, none⟩ = some (.slice (some ⟨b, off, none⟩) nn ncap) := hbx.cell' 0 1 _ _ rfl rfl
    go_enter Tryd.func55, Tryd.ntmps55
    go_upto_region 1 with fail
    rw [HW0.out]
    go_wp2
    go_ret
    exact ⟨by rw [← hz]; rfl, hbx.below⟩
set_option maxRecDepth 100000 in
theorem ref03_Same_eq (neg : Bool) (a : Option Addr) (n cap : Nat) (b : Option Addr) (cap' : Nat) (l : List Nat) (w : World) (h : Sl w a n cap l) (h' : Sl w b n cap' l) (hn : n ≤ 1099511627776) :
    Calls Tryd.prog 102 #[.agg #[.bool neg, .slice a n cap], .agg #[.bool neg, .slice b n cap']] w fun e w' => e = .returned (.bool true) ∧ Below w.heap.size w w' := by
  have hbx := boxes2 w #[.bool neg, .slice a n cap] #[.bool neg, .slice b n cap'] 25 25
  have hnn : ((n : Int) != (n : Int)) = false := by simp
  have hneg : (neg != neg) = false := by simp
  go_enter Tryd.func102, Tryd.ntmps102
  go_upto_region 1 with fail
  generalize hW0 : ((w.alloc (.cells #[.bool neg, .slice a n cap] 25)).alloc (.cells #[.bool neg, .slice b n cap'] 25)) = W0 at hbx ⊢
  clear hW0
  have K : Hid (∀ W, Boxes w W [#[.bool neg, .slice a n cap], #[.bool neg, .slice b n cap']] → (W.cell? ⟨w.heap.size, 0, none⟩ = some (.bool neg) ∧ W.cell? ⟨w.heap.size, 1, none⟩ = some (.slice a n cap)) ∧ W.cell? ⟨w.heap.size + 1, 0, none⟩ = some (.bool neg) ∧ W.cell? ⟨w.heap.size + 1, 1, none⟩ = some (.slice b n cap')) := fun W h => ⟨⟨h.cell' 0 0 _ _ rfl rfl, h.cell' 0 1 _ _ rfl rfl⟩, h.cell' 1 0 _ _ rfl rfl, h.cell' 1 1 _ _ rfl rfl⟩
  obtain ⟨⟨d0, d1⟩, d2, d3⟩ := K.out W0 hbx
  have HX := Alg.hid hbx
  go_wp2
  go_loopw [5] (fun i wr => ∃ k : Nat, i = .int .i64 k ∧ k ≤ n ∧ Hid (Boxes w wr [#[.bool neg, .slice a n cap], #[.bool neg, .slice b n cap']])) (fun i _ => n - (intOf i).toNat)
  case atStart => exact ⟨0, rfl, Nat.zero_le _, HX⟩
  case round =>
    clear HX hbx d0 d1 d2 d3
    obtain ⟨k, rfl, hk, hx⟩ := hrel
    obtain ⟨⟨d0, d1⟩, d2, d3⟩ := K.out wr hx.out
    by_cases hkn : k < n
    · rcases h.rd with h0 | ⟨b1, off, rfl, hc⟩
      · omega
      rcases h'.rd with h0 | ⟨b2, off', rfl, hc'⟩
      · omega
      have c1 : wr.cell? ⟨b1, off + k, none⟩ = some (.int .u32 (nth l k : Nat)) := (hx.out.below.cell (p := ⟨b1, off + k, none⟩) (cell_lt (hc k hkn))).trans (hc k hkn)
      have c2 : wr.cell? ⟨b2, off' + k, none⟩ = some (.int .u32 (nth l k : Nat)) := (hx.out.below.cell (p := ⟨b2, off' + k, none⟩) (cell_lt (hc' k hkn))).trans (hc' k hkn)
      clear hc hc'
      have s1 : (0 : Int) ≤ (k : Int) := by omega
      have s2 : (k : Int) < (n : Int) := by omega
      generalize nth l k = x at c1 c2
      have s3 : ((x : Int) != (x : Int)) = false := by simp
      have hxo := hx.out
      clear hx
      go_wp2
      go_quiet (fail)
      go_wp2
      go_roundw
      case rel => exact ⟨k + 1, by go_num, by omega, hxo.drewN _⟩
      case measure => simp [intOf]; omega
    · have s2 : ¬ (k : Int) < (n : Int) := by omega
      have hxx := hx.out.below
      go_wp2
      go_ret
      exact ⟨rfl, hxx⟩
set_option maxRecDepth 100000 in
set_option maxHeartbeats 800000 in
theorem law09_same_eq (fa : Option Addr) (n cap : Nat) (ga : Option Addr) (cap' : Nat) (L : List (Bool × List Nat)) (w : World) (hF : SlK kInt w fa n cap L) (hG : SlK kInt w ga n cap' L) (hn : n ≤ 100000) (hl : ∀ x ∈ L, x.2.length ≤ 100000) :
    Calls Tryd.prog 64 #[.slice fa n cap, .slice ga n cap'] w fun e w' => e = .returned (.bool true) ∧ Below w.heap.size w w' := by
  have lL := hF.len
  have HL := Alg.hid hl
  have hnn : ((n : Int) != (n : Int)) = false := by simp
  go_enter Tryd.func64, Tryd.ntmps64
  go_wp2
  go_loopw [5] (fun i wr => ∃ k : Nat, i = .int .i64 k ∧ k ≤ n ∧ Hid (Below w.heap.size w wr)) (fun i _ => n - (intOf i).toNat)
  case atStart => exact ⟨0, rfl, Nat.zero_le _, Below.refl _ _⟩
  case round =>
    obtain ⟨i, rfl, hi, hB⟩ := hrel
    by_cases hin : i < n
    · have hin' : (i : Int) < (n : Int) := by omega
      have hi0 : (0 : Int) ≤ (i : Int) := by omega
      have hiL : i < L.length := by omega
      rcases hF.rd with h | ⟨b1, o1, rfl, _⟩
      · omega
      rcases hG.rd with h | ⟨b2, o2, rfl, _⟩
      · omega
      have t1 := (hF.mono hB.out).mono (bdrew (Below.refl _ wr))
      have t2 := (hG.mono hB.out).mono (bdrew (Below.refl _ wr))
      obtain ⟨a3, m3, c3, k0, k1, g1⟩ := t1.int i hiL
      obtain ⟨a4, m4, c4, k2, k3, g2⟩ := t2.int i hiL
      have hm3 : m3 ≤ 1099511627776 := by have := HL.out _ (List.getElem_mem hiL); rw [g1.len] at this; omega
      obtain rfl : m4 = m3 := by rw [← g1.len, ← g2.len]
      generalize L[i].1 = P at k0 k2
      generalize L[i].2 = Q at g1 g2
      have KR : Hid (∀ W, Below wr.drew.heap.size wr.drew W → W.cell? ⟨b1, o1 + i * 2, none⟩ = some (.bool P) ∧ W.cell? ⟨b1, o1 + i * 2 + 1, none⟩ = some (.slice a3 m4 c3) ∧ W.cell? ⟨b2, o2 + i * 2, none⟩ = some (.bool P) ∧ W.cell? ⟨b2, o2 + i * 2 + 1, none⟩ = some (.slice a4 m4 c4)) := fun W h => ⟨(h.cell (cell_lt k0)).trans k0, (h.cell (cell_lt k1)).trans k1, (h.cell (cell_lt k2)).trans k2, (h.cell (cell_lt k3)).trans k3⟩
      have hR0 : Below wr.drew.heap.size wr.drew wr.drew := Below.refl _ _
      clear k0 k1 k2 k3 t1 t2
      go_upto_region 6 with fail
      refine wp_region_noPanic ?_
      refine wp_region_held2 9 [(1, 0), (1, 1), (1, 2), (1, 3), (1, 4), (1, 5), (1, 6), (1, 7), (0, 8), (3, 9)] (fun W => W.cell? ⟨b1, o1 + i * 2, none⟩ = some (.bool P) ∧ W.cell? ⟨b1, o1 + i * 2 + 1, none⟩ = some (.slice a3 m4 c3) ∧ W.cell? ⟨b2, o2 + i * 2, none⟩ = some (.bool P) ∧ W.cell? ⟨b2, o2 + i * 2 + 1, none⟩ = some (.slice a4 m4 c4)) (fun _ => True) (by kernel_rfl) (by kernel_rfl) (fun _ _ _ _ _ h => h) (fun _ _ => trivial) (KR.out _ hR0) (fun _ => ?_)
      simp only [pick2, List.getElem?_cons_succ, List.getElem?_cons_zero]
      iterate 8
        (refine held2_early (v := ?_) (by rfl) ?_ ?_
         rotate_left
         · intro W hSw; (try dsimp only at hSw); go_simp; (try with_reducible rfl)
         try simp only [Act.put, List.setIfInBounds_toArray, List.set_cons_zero, List.set_cons_succ])
      refine held2_loud (fun K' hK => ?_)
      go_simp
      refine (ref03_Same_eq P a3 m4 c3 a4 c4 Q wr.drew g1 g2 hm3).mono ?_
      rintro e w5 ⟨rfl, hb5⟩
      refine hK.out _ _ (KR.out _ hb5) (fun _ => ?_)
      clear hK K'
      try simp only [Act.put, List.setIfInBounds_toArray, List.set_cons_zero, List.set_cons_succ]
      refine held2_store (fun K' hK => ?_)
      go_simp
      refine hK.out _ _ trivial (fun _ => ?_)
      clear hK K'
      try simp only [Act.put, List.setIfInBounds_toArray, List.set_cons_zero, List.set_cons_succ]
      refine held2_nil ?_
      refine NoPanic.normal ?_
      have hB5 : Hid (Below w.heap.size w w5) := bl hB.out (btrans (bdrew (Below.refl _ wr)) hb5) hB.out.size
      clear KR g1 g2
      go_wp2
      go_roundw
      case rel => exact ⟨i + 1, by go_num, by omega, hB5⟩
      case measure => simp [intOf]; omega
    · have hin' : ¬ (i : Int) < (n : Int) := by omega
      have hxx := hB.out
      go_wp2
      go_ret
      exact ⟨rfl, hxx⟩
set_option maxRecDepth 100000 in
set_option maxHeartbeats 1200000 in
theorem from_walk (p : Nat) (fa : Option Addr) (fn fcap : Nat) (FL : List (Bool × List Nat)) (q : Nat) (ga : Option Addr) (gn gcap : Nat) (gl : List Nat) (w : World) (hF : SlK kInt w fa fn fcap FL) (hg : Sl w ga gn gcap gl) (hp : p < 4294967296) (hq : q < 4294967296) (hFC : ∀ q, q < 4294967296 → FieldC w q) :
    Calls Tryd.prog 14 #[.int .u32 (p : Int), .slice fa fn fcap, .agg #[.int .u32 (q : Int), .slice ga gn gcap]] w fun e w' => e = .returned (.bool true) ∧ Below w.heap.size w w' := by
  have hbx := boxes1 w #[.int .u32 (q : Int), .slice ga gn gcap] 47
  have HFC := Alg.hid hFC
  have lF := hF.len
  have leF := hF.le
  have lcF := hF.cap
  have lg := hg.len
  clear hFC
  go_enter Tryd.func14, Tryd.ntmps14
  go_upto_region 1 with fail
  generalize hW0 : w.alloc (.cells #[.int .u32 (q : Int), .slice ga gn gcap] 47) = W0 at hbx ⊢
  clear hW0
  have K : Hid (∀ W, Boxes w W [#[.int .u32 (q : Int), .slice ga gn gcap]] → W.cell? ⟨w.heap.size, 0, none⟩ = some (.int .u32 (q : Int)) ∧ W.cell? ⟨w.heap.size, 1, none⟩ = some (.slice ga gn gcap)) := fun W h => ⟨h.cell' 0 0 _ _ rfl rfl, h.cell' 0 1 _ _ rfl rfl⟩
  go_wp2_with fail
  refine (awake_true W0).mono ?_
  rintro e w1 ⟨rfl, hb1⟩
  have hx1 := hbx.mono hb1
  clear hbx hb1
  by_cases h21 : fn > 21
  · have h21' : (fn : Int) > 21 := by omega
    go_wp2
    go_ret
    exact ⟨rfl, hx1.below⟩
  have h21' : ¬ (fn : Int) > 21 := by omega
  go_wp2_with fail
  refine (ref_Field p w1 hp).mono ?_
  rintro e w1' ⟨rfl, he⟩
  subst he
  by_cases hpr : IsPr p ∧ p < 2147483648
  rotate_left
  · rw [errP_no hpr]
    go_wp2
    go_ret
    exact ⟨rfl, hx1.below⟩
  rw [errP_yes hpr.1 hpr.2]
  have hp0 : 0 < p := by have := hpr.1.1; omega
  have HX1 := Alg.hid hx1
  clear hx1
  go_wp2
  go_loopw [7] (fun v wr => ∃ i : Nat, v = .int .i64 i ∧ i ≤ fn ∧ Hid (Boxes w wr [#[.int .u32 (q : Int), .slice ga gn gcap]]) ∧ Hid (∀ j (h : j < FL.length), j < i → FewZ FL[j])) (fun v _ => fn - (intOf v).toNat)
  case atStart => exact ⟨0, rfl, Nat.zero_le _, HX1, fun j _ h => absurd h (by omega)⟩
  case round =>
    clear HX1
    obtain ⟨i, rfl, hi, hx, hall⟩ := hrel
    by_cases hin : i < fn
    · have hin' : (i : Int) < (fn : Int) := by omega
      have hi0 : (0 : Int) ≤ (i : Int) := by omega
      have hiL : i < FL.length := by omega
      rcases hF.rd with h | ⟨b1, o1, rfl, _⟩
      · omega
      obtain ⟨a3, m3, c3, k0, k1, g1⟩ := (hF.mono hx.out.below).int i hiL
      have hfew : Hid (∀ l, l = FL[i].2 → l.length ≤ 5 → Canon 4294967296 l → FewZ FL[i]) := fun l hl h5 hc => ⟨hl ▸ h5, hl ▸ hc⟩
      generalize FL[i].1 = P at k0
      generalize hQ : FL[i].2 = Q at g1
      have lm := g1.len
      have lem := g1.le
      have lcm := g1.cap
      have hxx := hx.out.below
      by_cases h5 : m3 > 5
      · have h5' : (m3 : Int) > 5 := by omega
        clear hfew hall
        go_wp2
        go_ret
        exact ⟨rfl, hxx⟩
      have h5' : ¬ (m3 : Int) > 5 := by omega
      go_wp2_with fail
      refine (ref03_RightZ P a3 m3 c3 Q wr g1 (by omega)).mono ?_
      rintro e w2 ⟨rfl, hb2⟩
      have hx2 := hx.out.mono hb2
      have k1 := (hb2.cell (cell_lt k1)).trans k1
      clear k0
      cases hr : rightZ P Q with
      | false =>
        clear hfew hall
        go_wp2
        go_ret
        exact ⟨rfl, hx2.below⟩
      | true =>
        have hcan := (rightZ_canon hr g1.lt).1
        have hall2 : Hid (∀ j (h : j < FL.length), j < i + 1 → FewZ FL[j]) := fun j h hj => by
          by_cases e : j = i
          · subst e; exact hfew.out Q hQ.symm (by omega) hcan
          · exact hall.out j h (by omega)
        have HX2 := Alg.hid hx2
        clear hfew hall hr hcan hx hQ
        by_cases hlast : i = fn - 1
        · have hl1 : ((i : Int) == (fn : Int) - 1) = true := by simp; omega
          by_cases hm0 : m3 = 0
          · have hm0' : ((m3 : Int) == 0) = true := by rw [hm0]; rfl
            clear hall2 lm hm0 hlast
            go_wp2
            go_ret
            exact ⟨rfl, HX2.out.below⟩
          · have hm0' : ((m3 : Int) == 0) = false := by simp; omega
            clear lm hlast
            go_wp2
            go_roundw
            case rel => exact ⟨i + 1, by go_num, by omega, HX2, hall2⟩
            case measure => simp [intOf]; omega
        · have hl1 : ((i : Int) == (fn : Int) - 1) = false := by simp; omega
          clear lm
          go_wp2
          go_roundw
          case rel => exact ⟨i + 1, by go_num, by omega, HX2, hall2⟩
          case measure => simp [intOf]; omega
    · have hin' : ¬ (i : Int) < (fn : Int) := by omega
      obtain rfl : i = fn := by omega
      have HALL : Hid (∀ x ∈ FL, Canon 4294967296 x.2 ∧ x.2.length ≤ 100000) := fun x hx => by
        obtain ⟨j, hj, rfl⟩ := List.mem_iff_getElem.1 hx
        have := hall.out j hj (by omega)
        exact ⟨this.2, by have := this.1; omega⟩
      clear hall
      have hx1 := hx.out
      clear hx
      go_wp2_with fail
      refine (ppoly_From p fa i fcap FL wr (hF.mono hx1.below) (by omega) HALL.out hp0 hp).mono ?_
      rintro e w2 ⟨xa, xn, xc, rfl, sx, hb2, _⟩
      have hx2 := hx1.mono hb2
      have x2 := Box.new w2 #[.int .u32 (p : Int), .slice xa xn xc] 47
      have hb3 := (Below.refl _ w2).alloc (Nat.le_refl _) (.cells #[.int .u32 (p : Int), .slice xa xn xc] 47)
      have hx3 := hx2.alloc_any (.cells #[.int .u32 (p : Int), .slice xa xn xc] 47)
      have sx3 := sx.mono hb3
      have lx := sx.len
      have hxl : xn ≤ i := by
        rw [← lx]
        unfold imL
        refine Nat.le_trans (trim_len _) ?_
        rw [List.length_map]; omega
      have HIC := Alg.hid (imL_canon hp0 FL)
      go_upto_region 11 with fail
      generalize hW3 : w2.alloc (.cells #[.int .u32 (p : Int), .slice xa xn xc] 47) = w3 at x2 hx3 sx3 ⊢
      generalize hb0 : w2.heap.size = bX at x2 ⊢
      clear hW3 hb3 hb2 hx2 sx hx1 hb0 lx
      have HS : Hid (sameB p (imL p FL) p (imL p FL) = true) := sameB_true.2 ⟨rfl, rfl⟩
      have HRT : Hid (rightB p (imL p FL) = true) := rightB_true.2 ⟨HIC.out, hpr.1, hpr.2⟩
      have KX : Hid (∀ W, Below w3.drew.heap.size w3.drew W → W.cell? ⟨bX, 0, none⟩ = some (.int .u32 (p : Int)) ∧ W.cell? ⟨bX, 1, none⟩ = some (.slice xa xn xc)) := fun W h => ⟨(x2.drew.mono h).cell 0 _ rfl, (x2.drew.mono h).cell 1 _ rfl⟩
      have hR0 : Below w3.drew.heap.size w3.drew w3.drew := Below.refl _ _
      have hxd := hx3.drew
      have sxd := sx3.drew
      refine wp_region_noPanic ?_
      refine wp_region_held2 10 [(1, 0), (1, 1), (1, 2), (0, 3), (0, 4), (1, 5), (1, 6), (1, 7), (0, 8), (1, 9), (3, 10)] (fun W => W.cell? ⟨bX, 0, none⟩ = some (.int .u32 (p : Int)) ∧ W.cell? ⟨bX, 1, none⟩ = some (.slice xa xn xc)) (fun _ => True) (by kernel_rfl) (by kernel_rfl) (fun _ _ _ _ _ h => h) (fun _ _ => trivial) (KX.out _ hR0) (fun _ => ?_)
      simp only [pick2, List.getElem?_cons_succ, List.getElem?_cons_zero]
      iterate 3
        (refine held2_early (v := ?_) (by rfl) ?_ ?_
         rotate_left
         · intro W hSw; (try dsimp only at hSw); go_simp; (try with_reducible rfl)
         try simp only [Act.put, List.setIfInBounds_toArray, List.set_cons_zero, List.set_cons_succ])
      refine held2_loud (fun K' hK => ?_)
      go_simp
      refine (ref_From p fa i fcap FL w3.drew (hF.mono hxd.below) (by omega) HALL.out hp0 hp).mono ?_
      rintro e w4 ⟨ya, yn, yc, rfl, sy, hb4, _⟩
      have r4 := hb4
      refine hK.out _ _ (KX.out _ r4) (fun _ => ?_)
      clear hK K'
      try simp only [Act.put, List.setIfInBounds_toArray, List.set_cons_zero, List.set_cons_succ]
      refine held2_loud (fun K' hK => ?_)
      go_simp
      refine (ref_Same p xa xn xc (imL p FL) p ya yn yc (imL p FL) w4 (sxd.mono r4) sy (by omega)).mono ?_
      rw [HS.out]
      rintro e w5 ⟨rfl, hb5⟩
      have r5 := btrans r4 hb5
      refine hK.out _ _ (KX.out _ r5) (fun _ => ?_)
      clear hK K'
      try simp only [Act.put, List.setIfInBounds_toArray, List.set_cons_zero, List.set_cons_succ]
      iterate 3
        (refine held2_early (v := ?_) (by rfl) ?_ ?_
         rotate_left
         · intro W hSw; (try dsimp only at hSw); go_simp; (try with_reducible rfl)
         try simp only [Act.put, List.setIfInBounds_toArray, List.set_cons_zero, List.set_cons_succ])
      refine held2_loud (fun K' hK => ?_)
      go_simp
      refine (ppoly_Right p xa xn xc (imL p FL) w5 ((HFC.out p hp).mono (hxd.mono r5).below) (sxd.mono r5) (by omega)).mono ?_
      rw [HRT.out]
      rintro e w6 ⟨rfl, hb6⟩
      have r6 := btrans r5 hb6
      refine hK.out _ _ (KX.out _ r6) (fun _ => ?_)
      clear hK K'
      try simp only [Act.put, List.setIfInBounds_toArray, List.set_cons_zero, List.set_cons_succ]
      iterate 1
        (refine held2_early (v := ?_) (by rfl) ?_ ?_
         rotate_left
         · intro W hSw; (try dsimp only at hSw); go_simp; (try with_reducible rfl)
         try simp only [Act.put, List.setIfInBounds_toArray, List.set_cons_zero, List.set_cons_succ])
      refine held2_store (fun K' hK => ?_)
      go_simp
      refine hK.out _ _ trivial (fun _ => ?_)
      clear hK K'
      try simp only [Act.put, List.setIfInBounds_toArray, List.set_cons_zero, List.set_cons_succ]
      refine held2_nil ?_
      refine NoPanic.normal ?_
      have hx6 := hxd.mono r6
      clear KX sxd sx3 x2 HS HRT HIC hxd hx3 hxl
      obtain ⟨d0, d1⟩ := K.out w6 hx6
      go_wp2_with fail
      refine (ref_Fair q ga gn gcap gl 20 w6 (hg.mono hx6.below) hq (by omega)).mono ?_
      rintro e w7 ⟨rfl, hb7⟩
      have hx7 := hx6.mono hb7
      clear d0 d1 hb7
      cases hfair : fairB q gl 20 with
      | false =>
        go_wp2
        go_ret
        exact ⟨rfl, hx7.below⟩
      | true =>
        unfold fairB at hfair
        rw [Bool.and_eq_true] at hfair
        have hlen := of_decide_eq_true hfair.1
        obtain ⟨hcan, hqr, hq31⟩ := rightB_true.1 hfair.2
        have hq0 : 0 < q := by have := hqr.1; omega
        haveI hne : NeZero q := ⟨by omega⟩
        have HLT : Hid (∀ i, nth gl i < q) := fun i => nth_lt hcan i
        have HUP := Alg.hid (imL_up hcan)
        have HSY := Alg.hid (imL_sym hcan)
        have HUO : Hid (∀ x ∈ zupL gl, Canon 4294967296 x.2 ∧ x.2.length ≤ 100000) := fun x hx => by
          obtain ⟨c, hc, rfl⟩ := List.mem_map.1 hx
          exact ⟨lim_canon _, Nat.le_trans (lim_length_le (k := 1) (by have := hcan.lt c hc; omega)) (by decide)⟩
        have HSO : Hid (∀ x ∈ zsymL q gl, Canon 4294967296 x.2 ∧ x.2.length ≤ 100000) := fun x hx => by
          obtain ⟨c, hc, rfl⟩ := List.mem_map.1 hx
          have hc' := hcan.lt c hc
          unfold symC
          split
          · exact ⟨lim_canon _, Nat.le_trans (lim_length_le (k := 1) (by omega)) (by decide)⟩
          · exact ⟨lim_canon _, Nat.le_trans (lim_length_le (k := 1) (by omega)) (by decide)⟩
        have HS : Hid (sameB q gl q gl = true) := sameB_true.2 ⟨rfl, rfl⟩
        have hgn : gn ≤ 21 := by omega
        have KG : Hid (∀ W, Below w7.drew.heap.size w7.drew W → W.cell? ⟨w.heap.size, 0, none⟩ = some (.int .u32 (q : Int)) ∧ W.cell? ⟨w.heap.size, 1, none⟩ = some (.slice ga gn gcap)) := fun W h => K.out W (hx7.drew.mono h)
        have hR1 : Below w7.drew.heap.size w7.drew w7.drew := Below.refl _ _
        have hgd := hg.mono hx7.drew.below
        have lzu : (zupL gl).length = gn := by simp only [zupL, List.length_map]; omega
        have lzs : (zsymL q gl).length = gn := by simp only [zsymL, List.length_map]; omega
        clear hcan hfair hlen
        go_upto_region 15 with fail
        refine wp_region_noPanic ?_
        refine wp_region_held2 30 [(1, 0), (1, 2), (0, 1), (0, 3), (0, 4), (1, 5), (1, 6), (1, 8), (0, 7), (0, 9), (0, 10), (1, 11), (1, 12), (1, 13), (1, 14), (1, 15), (1, 18), (0, 16), (0, 17), (0, 19), (1, 20), (1, 21), (1, 22), (1, 23), (1, 24), (1, 27), (0, 25), (0, 26), (0, 28), (1, 29), (3, 30)] (fun W => W.cell? ⟨w.heap.size, 0, none⟩ = some (.int .u32 (q : Int)) ∧ W.cell? ⟨w.heap.size, 1, none⟩ = some (.slice ga gn gcap)) (fun _ => True) (by kernel_rfl) (by kernel_rfl) (fun _ _ _ _ _ h => h) (fun _ _ => trivial) (KG.out _ hR1) (fun _ => ?_)
        simp only [pick2, List.getElem?_cons_succ, List.getElem?_cons_zero]
        iterate 2
          (refine held2_early (v := ?_) (by rfl) ?_ ?_
           rotate_left
           · intro W hSw; (try dsimp only at hSw); go_simp; (try with_reducible rfl)
           try simp only [Act.put, List.setIfInBounds_toArray, List.set_cons_zero, List.set_cons_succ])
        refine held2_loud (fun K' hK => ?_)
        go_simp
        refine (ppoly_Up q ga gn gcap gl w7.drew hgd (by omega) hq HLT.out).mono ?_
        rintro e v1 ⟨u1a, u1n, u1c, rfl, su1, r1⟩
        have hln : u1n = gn := by rw [← su1.len, lzu]
        rw [hln] at su1 ⊢
        clear hln
        refine hK.out _ _ (KG.out _ r1) (fun _ => ?_)
        clear hK K'
        try simp only [Act.put, List.setIfInBounds_toArray, List.set_cons_zero, List.set_cons_succ]
        refine held2_loud (fun K' hK => ?_)
        go_simp
        refine (ref_Up q ga gn gcap gl v1 (hgd.mono r1) (by omega) hq HLT.out).mono ?_
        rintro e v3 ⟨u3a, u3n, u3c, rfl, su3, hb3⟩
        have hln : u3n = gn := by rw [← su3.len, lzu]
        rw [hln] at su3 ⊢
        clear hln
        have r3 := btrans r1 hb3
        refine hK.out _ _ (KG.out _ r3) (fun _ => ?_)
        clear hK K'
        try simp only [Act.put, List.setIfInBounds_toArray, List.set_cons_zero, List.set_cons_succ]
        refine held2_loud (fun K' hK => ?_)
        go_simp
        refine (law09_same_eq u1a gn u1c u3a u3c (zupL gl) v3 (su1.mono hb3) su3 (by omega) (fun x hx => (HUO.out x hx).2)).mono ?_
        rintro e v4 ⟨rfl, hb4⟩
        have r4 := btrans r3 hb4
        clear su1 su3
        refine hK.out _ _ (KG.out _ r4) (fun _ => ?_)
        clear hK K'
        try simp only [Act.put, List.setIfInBounds_toArray, List.set_cons_zero, List.set_cons_succ]
        iterate 3
          (refine held2_early (v := ?_) (by rfl) ?_ ?_
           rotate_left
           · intro W hSw; (try dsimp only at hSw); go_simp; (try with_reducible rfl)
           try simp only [Act.put, List.setIfInBounds_toArray, List.set_cons_zero, List.set_cons_succ])
        refine held2_loud (fun K' hK => ?_)
        go_simp
        refine (ppoly_Sym q ga gn gcap gl v4 (hgd.mono r4) (by omega) hq HLT.out).mono ?_
        rintro e v7 ⟨u7a, u7n, u7c, rfl, su7, hb7⟩
        have hln : u7n = gn := by rw [← su7.len, lzs]
        rw [hln] at su7 ⊢
        clear hln
        have r7 := btrans r4 hb7
        refine hK.out _ _ (KG.out _ r7) (fun _ => ?_)
        clear hK K'
        try simp only [Act.put, List.setIfInBounds_toArray, List.set_cons_zero, List.set_cons_succ]
        refine held2_loud (fun K' hK => ?_)
        go_simp
        refine (ref_Sym q ga gn gcap gl v7 (hgd.mono r7) (by omega) hq HLT.out).mono ?_
        rintro e v9 ⟨u9a, u9n, u9c, rfl, su9, hb9⟩
        have hln : u9n = gn := by rw [← su9.len, lzs]
        rw [hln] at su9 ⊢
        clear hln
        have r9 := btrans r7 hb9
        refine hK.out _ _ (KG.out _ r9) (fun _ => ?_)
        clear hK K'
        try simp only [Act.put, List.setIfInBounds_toArray, List.set_cons_zero, List.set_cons_succ]
        refine held2_loud (fun K' hK => ?_)
        go_simp
        refine (law09_same_eq u7a gn u7c u9a u9c (zsymL q gl) v9 (su7.mono hb9) su9 (by omega) (fun x hx => (HSO.out x hx).2)).mono ?_
        rintro e v10 ⟨rfl, hb10⟩
        have r10 := btrans r9 hb10
        clear su7 su9
        refine hK.out _ _ (KG.out _ r10) (fun _ => ?_)
        clear hK K'
        try simp only [Act.put, List.setIfInBounds_toArray, List.set_cons_zero, List.set_cons_succ]
        iterate 6
          (refine held2_early (v := ?_) (by rfl) ?_ ?_
           rotate_left
           · intro W hSw; (try dsimp only at hSw); go_simp; (try with_reducible rfl)
           try simp only [Act.put, List.setIfInBounds_toArray, List.set_cons_zero, List.set_cons_succ])
        refine held2_loud (fun K' hK => ?_)
        go_simp
        refine (ppoly_Up q ga gn gcap gl v10 (hgd.mono r10) (by omega) hq HLT.out).mono ?_
        rintro e v16 ⟨ua, un, uc, rfl, su, hb16⟩
        have hln : un = gn := by rw [← su.len, lzu]
        rw [hln] at su ⊢
        clear hln
        have r16 := btrans r10 hb16
        refine hK.out _ _ (KG.out _ r16) (fun _ => ?_)
        clear hK K'
        try simp only [Act.put, List.setIfInBounds_toArray, List.set_cons_zero, List.set_cons_succ]
        refine held2_loud (fun K' hK => ?_)
        go_simp
        refine (ppoly_From q ua gn uc (zupL gl) v16 su (by omega) HUO.out hq0 hq).mono ?_
        rw [HUP.out]
        rintro e v17 ⟨ya, yn, yc, rfl, sy, hb17, _⟩
        have r17 := btrans r16 hb17
        have ly := sy.len
        refine hK.out _ _ (KG.out _ r17) (fun _ => ?_)
        clear hK K'
        try simp only [Act.put, List.setIfInBounds_toArray, List.set_cons_zero, List.set_cons_succ]
        refine held2_loud (fun K' hK => ?_)
        go_simp
        refine (ref_Same q ya yn yc gl q ga gn gcap gl v17 sy (hgd.mono r17) (by omega)).mono ?_
        rw [HS.out]
        rintro e v19 ⟨rfl, hb19⟩
        have r19 := btrans r17 hb19
        clear su sy ly
        refine hK.out _ _ (KG.out _ r19) (fun _ => ?_)
        clear hK K'
        try simp only [Act.put, List.setIfInBounds_toArray, List.set_cons_zero, List.set_cons_succ]
        iterate 6
          (refine held2_early (v := ?_) (by rfl) ?_ ?_
           rotate_left
           · intro W hSw; (try dsimp only at hSw); go_simp; (try with_reducible rfl)
           try simp only [Act.put, List.setIfInBounds_toArray, List.set_cons_zero, List.set_cons_succ])
        refine held2_loud (fun K' hK => ?_)
        go_simp
        refine (ppoly_Sym q ga gn gcap gl v19 (hgd.mono r19) (by omega) hq HLT.out).mono ?_
        rintro e v25 ⟨ta, tn, tc, rfl, su, hb25⟩
        have hln : tn = gn := by rw [← su.len, lzs]
        rw [hln] at su ⊢
        clear hln
        have r25 := btrans r19 hb25
        refine hK.out _ _ (KG.out _ r25) (fun _ => ?_)
        clear hK K'
        try simp only [Act.put, List.setIfInBounds_toArray, List.set_cons_zero, List.set_cons_succ]
        refine held2_loud (fun K' hK => ?_)
        go_simp
        refine (ppoly_From q ta gn tc (zsymL q gl) v25 su (by omega) HSO.out hq0 hq).mono ?_
        rw [HSY.out]
        rintro e v26 ⟨ya, yn, yc, rfl, sy, hb26, _⟩
        have r26 := btrans r25 hb26
        have ly := sy.len
        refine hK.out _ _ (KG.out _ r26) (fun _ => ?_)
        clear hK K'
        try simp only [Act.put, List.setIfInBounds_toArray, List.set_cons_zero, List.set_cons_succ]
        refine held2_loud (fun K' hK => ?_)
        go_simp
        refine (ref_Same q ya yn yc gl q ga gn gcap gl v26 sy (hgd.mono r26) (by omega)).mono ?_
        rw [HS.out]
        rintro e v28 ⟨rfl, hb28⟩
        have r28 := btrans r26 hb28
        refine hK.out _ _ (KG.out _ r28) (fun _ => ?_)
        clear hK K'
        try simp only [Act.put, List.setIfInBounds_toArray, List.set_cons_zero, List.set_cons_succ]
        iterate 1
          (refine held2_early (v := ?_) (by rfl) ?_ ?_
           rotate_left
           · intro W hSw; (try dsimp only at hSw); go_simp; (try with_reducible rfl)
           try simp only [Act.put, List.setIfInBounds_toArray, List.set_cons_zero, List.set_cons_succ])
        refine held2_store (fun K' hK => ?_)
        go_simp
        refine hK.out _ _ trivial (fun _ => ?_)
        clear hK K'
        try simp only [Act.put, List.setIfInBounds_toArray, List.set_cons_zero, List.set_cons_succ]
        refine held2_nil ?_
        refine NoPanic.normal ?_
        have hx8 := hx7.drew.mono r28
        go_wp2
        go_ret
        exact ⟨rfl, hx8.below⟩
end Go.Proofs.YtbnjmeeaaieicaaDoor
