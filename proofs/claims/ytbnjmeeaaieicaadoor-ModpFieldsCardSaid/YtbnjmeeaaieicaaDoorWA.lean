/- Contracts of the reference's DivMod, Int and Right of whole numbers, and of its From of layer 7. -/
import Derived.Test.YtbnjmeeaaieicaaDoorW89
import Derived.Test.YtbnjmeeaaieicaaDoorR5
open Alg Go Go.RowKit
namespace Alg
/-- a quotient, what is left, no error -/
def RetQ3 (qs : Bool) (Q R : Nat) (w : World) (e : Ending) (w' : World) : Prop :=
  ∃ a n cap b m cap', e = .returned (.tuple #[.agg #[.bool (sg qs n), .slice a n cap], .agg #[.bool (sg false m), .slice b m cap'], .int .i64 0]) ∧ Sl w' a n cap (lim Q) ∧ Sl w' b m cap' (lim R) ∧ Below w.heap.size w w' ∧ Prov w [] a n ∧ Prov w [] b m
/-- may a whole number be? -/
def rightW (neg : Bool) (l : List Nat) : Bool := if l.length = 0 then !neg else decide (nth l (l.length - 1) ≠ 0)
theorem rightW_canon {neg : Bool} {l : List Nat} (h : rightW neg l = true) (hl : ∀ i, nth l i < 4294967296) : Canon 4294967296 l ∧ (neg = true → 0 < valN l) := by
  have hc : Canon 4294967296 l := (canon_iff rfl (by decide)).2 ⟨fun i _ => hl i, by
    unfold rightW at h
    split at h
    · left; assumption
    · right; exact of_decide_eq_true h⟩
  refine ⟨hc, fun hn => ?_⟩
  unfold rightW at h
  split at h
  · subst hn; cases h
  · rename_i h0
    rcases Nat.eq_zero_or_pos (valN l) with e | e
    · have := lim_valN hc
      rw [e, lim_zero] at this
      rw [← this] at h0
      exact absurd rfl h0
    · exact e
end Alg
namespace Go.Proofs.YtbnjmeeaaieicaaDoor
open Go.RowKit
set_option maxRecDepth 100000 in
set_option maxHeartbeats 700000 in
theorem ref02_DivMod (na qs : Bool) (Q R : Nat) (a : Option Addr) (n cap : Nat) (b : Option Addr) (m cap' : Nat) (w : World) (hm : 0 < m)
    (H : ∀ W, Below w.heap.size w W → Calls Tryd.prog 114 #[.agg #[.bool na, .slice a n cap], .agg #[.bool false, .slice b m cap']] W (RetQ2 qs Q R W)) :
    Calls Tryd.prog 74 #[.agg #[.bool na, .slice a n cap], .agg #[.bool false, .slice b m cap']] w (RetQ3 qs Q R w) := by
  have hbx := boxes4 w #[.bool na, .slice a n cap] #[.bool false, .slice b m cap'] #[.bool false, .slice none 0 0] #[.bool false, .slice none 0 0] 25 25 25 25
  have HH := Alg.hid H
  clear H
  go_enter Tryd.func74, Tryd.ntmps74
  go_upto_region 1 with fail
  generalize hW0 : ((((w.alloc (.cells #[.bool na, .slice a n cap] 25)).alloc (.cells #[.bool false, .slice b m cap'] 25)).alloc (.cells #[.bool false, .slice none 0 0] 25)).alloc (.cells #[.bool false, .slice none 0 0] 25)) = W0 at hbx ⊢
  clear hW0
  have d0 : W0.cell? ⟨w.heap.size + 1, 0, none⟩ = some (.bool false) := hbx.cell' 1 0 _ _ rfl rfl
  have d1 : W0.cell? ⟨w.heap.size + 1, 1, none⟩ = some (.slice b m cap') := hbx.cell' 1 1 _ _ rfl rfl
  go_wp2_with fail
  refine (ref02_Sign false b m cap' W0).mono ?_
  rintro e w1 ⟨rfl, hb1⟩
  have hx1 := hbx.mono hb1
  have hsg : signN false m = 1 := by unfold signN; rw [if_neg (by omega)]; rfl
  rw [hsg]
  clear d0 d1 hb1 hbx
  have d0 : w1.cell? ⟨w.heap.size + 1, 0, none⟩ = some (.bool false) := hx1.cell' 1 0 _ _ rfl rfl
  have d1 : w1.cell? ⟨w.heap.size + 1, 1, none⟩ = some (.slice b m cap') := hx1.cell' 1 1 _ _ rfl rfl
  have d2 : w1.cell? ⟨w.heap.size, 0, none⟩ = some (.bool na) := hx1.cell' 0 0 _ _ rfl rfl
  have d3 : w1.cell? ⟨w.heap.size, 1, none⟩ = some (.slice a n cap) := hx1.cell' 0 1 _ _ rfl rfl
  go_wp2_with fail
  refine (HH.out w1 hx1.below).mono ?_
  rintro e w3 ⟨xa, xn, xc, ya, yn, yc, rfl, hsx, hsy, hb3, hpx, hpy⟩
  have hx3 := hx1.mono hb3
  have hs30 := hx1.size
  simp only [List.length_cons, List.length_nil] at hs30
  have hs31 := hb3.size
  have hx5 := (hx3.alloc_any (.cells #[.bool (sg qs xn), .slice xa xn xc] 25)).alloc_any (.cells #[.bool (sg false yn), .slice ya yn yc] 25)
  clear d0 d1 d2 d3
  have xX0 : Box ((w3.alloc (.cells #[.bool (sg qs xn), .slice xa xn xc] 25)).alloc (.cells #[.bool (sg false yn), .slice ya yn yc] 25)) w3.heap.size #[.bool (sg qs xn), .slice xa xn xc] := (Box.new w3 _ _).alloc _
  have xY0 : Box ((w3.alloc (.cells #[.bool (sg qs xn), .slice xa xn xc] 25)).alloc (.cells #[.bool (sg false yn), .slice ya yn yc] 25)) (w3.heap.size + 1) #[.bool (sg false yn), .slice ya yn yc] := Box.new' (w3.alloc _) _ _ (World.size_alloc _ _).symm
  have sX0 := sl_alloc (sl_alloc hsx (.cells #[.bool (sg qs xn), .slice xa xn xc] 25)) (.cells #[.bool (sg false yn), .slice ya yn yc] 25)
  have sY0 := sl_alloc (sl_alloc hsy (.cells #[.bool (sg qs xn), .slice xa xn xc] 25)) (.cells #[.bool (sg false yn), .slice ya yn yc] 25)
  go_upto_region 4 with fail
  generalize hWE : ((w3.alloc (.cells #[.bool (sg qs xn), .slice xa xn xc] 25)).alloc (.cells #[.bool (sg false yn), .slice ya yn yc] 25)) = WE at hx5 xX0 xY0 sX0 sY0 ⊢
  clear hWE
  have oX2 : Off xa xn (w.heap.size + 1 + 1) := hpx.off0 (by omega)
  have oX3 : Off xa xn (w.heap.size + 1 + 1 + 1) := hpx.off0 (by omega)
  have oY2 : Off ya yn (w.heap.size + 1 + 1) := hpy.off0 (by omega)
  have oY3 : Off ya yn (w.heap.size + 1 + 1 + 1) := hpy.off0 (by omega)
  have pX : Prov w [] xa xn := hpx.mono (by omega)
  have pY : Prov w [] ya yn := hpy.mono (by omega)
  have KD : Hid (∀ W, (Box W w3.heap.size #[.bool (sg qs xn), .slice xa xn xc] ∧ Box W (w3.heap.size + 1) #[.bool (sg false yn), .slice ya yn yc]) → W.cell? ⟨w3.heap.size, 0, none⟩ = some (.bool (sg qs xn)) ∧ W.cell? ⟨w3.heap.size, 1, none⟩ = some (.slice xa xn xc) ∧ W.cell? ⟨w3.heap.size + 1, 0, none⟩ = some (.bool (sg false yn)) ∧ W.cell? ⟨w3.heap.size + 1, 1, none⟩ = some (.slice ya yn yc) ∧ (Box W w3.heap.size #[.bool (sg qs xn), .slice xa xn xc] ∧ Box W (w3.heap.size + 1) #[.bool (sg false yn), .slice ya yn yc])) := fun W h => ⟨h.1.cell 0 _ rfl, h.1.cell 1 _ rfl, h.2.cell 0 _ rfl, h.2.cell 1 _ rfl, h⟩
  have nX2 : w3.heap.size ≠ w.heap.size + 1 + 1 := by omega
  have nX3 : w3.heap.size ≠ w.heap.size + 1 + 1 + 1 := by omega
  have nY2 : w3.heap.size + 1 ≠ w.heap.size + 1 + 1 := by omega
  have nY3 : w3.heap.size + 1 ≠ w.heap.size + 1 + 1 + 1 := by omega
  have HX0 : Hid (Box WE.drew w3.heap.size #[.bool (sg qs xn), .slice xa xn xc]) := xX0.drew
  have HY0 : Hid (Box WE.drew (w3.heap.size + 1) #[.bool (sg false yn), .slice ya yn yc]) := xY0.drew
  have hxz := hx5
  have e20 : WE.cell? ⟨w.heap.size + 1 + 1, 0, none⟩ = some (.bool false) := hxz.cell' 2 0 _ _ rfl rfl
  have e21 : WE.cell? ⟨w.heap.size + 1 + 1, 1, none⟩ = some (.slice none 0 0) := hxz.cell' 2 1 _ _ rfl rfl
  have e30 : WE.cell? ⟨w.heap.size + 1 + 1 + 1, 0, none⟩ = some (.bool false) := hxz.cell' 3 0 _ _ rfl rfl
  have e31 : WE.cell? ⟨w.heap.size + 1 + 1 + 1, 1, none⟩ = some (.slice none 0 0) := hxz.cell' 3 1 _ _ rfl rfl
  have f20 : WE.frozen? ⟨w.heap.size + 1 + 1, 0, none⟩ = false := hxz.frozen' 2 0 (by simp)
  have f21 : WE.frozen? ⟨w.heap.size + 1 + 1, 1, none⟩ = false := hxz.frozen' 2 1 (by simp)
  have f30 : WE.frozen? ⟨w.heap.size + 1 + 1 + 1, 0, none⟩ = false := hxz.frozen' 3 0 (by simp)
  have f31 : WE.frozen? ⟨w.heap.size + 1 + 1 + 1, 1, none⟩ = false := hxz.frozen' 3 1 (by simp)
  have sXz := sX0.drew
  have sYz := sY0.drew
  clear xX0 xY0 hx5 sX0 sY0 hx3 hx1 hsx hsy
  go_region_held3 (fun W => W.cell? ⟨w3.heap.size, 0, none⟩ = some (.bool (sg qs xn)) ∧ W.cell? ⟨w3.heap.size, 1, none⟩ = some (.slice xa xn xc) ∧ W.cell? ⟨w3.heap.size + 1, 0, none⟩ = some (.bool (sg false yn)) ∧ W.cell? ⟨w3.heap.size + 1, 1, none⟩ = some (.slice ya yn yc) ∧ (Box W w3.heap.size #[.bool (sg qs xn), .slice xa xn xc] ∧ Box W (w3.heap.size + 1) #[.bool (sg false yn), .slice ya yn yc]))
    (first
      | (exact KD.out _ ⟨HX0.out, HY0.out⟩)
      | (exact KD.out _ ⟨(HX0.out.other 0 nX2 _).other 1 nX2 _, (HY0.out.other 0 nY2 _).other 1 nY2 _⟩)
      | (exact KD.out _ ⟨(((HX0.out.other 0 nX2 _).other 1 nX2 _).other 0 nX3 _).other 1 nX3 _, (((HY0.out.other 0 nY2 _).other 1 nY2 _).other 0 nY3 _).other 1 nY3 _⟩))
    (fail)
  go_wp2
  (try simp only [Exit.inBlock, Exit.then])
  refine bodyPost_ret (v := .tuple #[.agg #[.bool (sg qs xn), .slice xa xn xc], .agg #[.bool (sg false yn), .slice ya yn yc], .int .i64 0]) (by simp [results, Tryd.results74, go_sem, e20, e21, e30, e31]) rfl ?_
  exact ⟨_, _, _, _, _, _, rfl, (((sXz.setCell oX2 _).setCell oX2 _).setCell oX3 _).setCell oX3 _, (((sYz.setCell oY2 _).setCell oY2 _).setCell oY3 _).setCell oY3 _,
    ((((hxz.below.setCell (p := ⟨w.heap.size + 1 + 1, 0, none⟩) (by simp; omega) (.bool (sg qs xn))).setCell (p := ⟨w.heap.size + 1 + 1, 1, none⟩) (by simp; omega) (.slice xa xn xc)).setCell (p := ⟨w.heap.size + 1 + 1 + 1, 0, none⟩) (by simp; omega) (.bool (sg false yn))).setCell (p := ⟨w.heap.size + 1 + 1 + 1, 1, none⟩) (by simp; omega) (.slice ya yn yc)).trans ⟨rfl, rfl, rfl, Nat.le_refl _, fun _ _ => rfl⟩, pX, pY⟩
set_option maxRecDepth 100000 in
set_option maxHeartbeats 800000 in
theorem ref02_Int1 (R : Nat) (a : Option Addr) (n cap : Nat) (w : World) (ha : Sl w a n cap (lim R)) (hR : R < 4294967296) :
    Calls Tryd.prog 75 #[.agg #[.bool false, .slice a n cap]] w fun e w' => e = .returned (.tuple #[.int .i64 (R : Int), .bool true]) ∧ Below w.heap.size w w' := by
  have hbx := boxes1 w #[.bool false, .slice a n cap] 25
  have ln := ha.len
  have hn1 : n ≤ 1 := by rw [← ln]; exact lim_small hR
  have hRw : IntKind.i64.wrap (R : Int) = (R : Int) := by rw [IntKind.wrap_i64]; omega
  have hRw2 : IntKind.u64.wrap (R : Int) = (R : Int) := by rw [IntKind.wrap_u64]; omega
  have hR63 : (R : Int) < 9223372036854775808 := by omega
  go_enter Tryd.func75, Tryd.ntmps75
  go_upto_region 1 with fail
  generalize hW0 : w.alloc (.cells #[.bool false, .slice a n cap] 25) = W0 at hbx ⊢
  clear hW0
  have d0 : W0.cell? ⟨w.heap.size, 0, none⟩ = some (.bool false) := hbx.cell' 0 0 _ _ rfl rfl
  have d1 : W0.cell? ⟨w.heap.size, 1, none⟩ = some (.slice a n cap) := hbx.cell' 0 1 _ _ rfl rfl
  have hn2 : ¬ (n : Int) > 2 := by omega
  rcases Nat.eq_zero_or_pos R with h0 | h0
  · subst h0
    rw [lim_zero] at ln
    obtain rfl : n = 0 := ln.symm
    go_wp2
    go_loopw [4, 5] (fun u i wr => u = .int .u64 0 ∧ i = .int .i64 0 ∧ wr = W0) (fun _ _ _ => 0)
    case atStart => exact ⟨rfl, rfl, rfl⟩
    case round =>
      obtain ⟨rfl, rfl, rfl⟩ := hrel
      go_wp2
      go_ret2
      exact ⟨rfl, hbx.below⟩
  · have hl := lim_one h0 hR
    rw [hl] at ln ha
    obtain rfl : n = 1 := ln.symm
    rcases ha.rd with h | ⟨b, off, rfl, hc⟩
    · omega
    have c0 : W0.cell? ⟨b, off, none⟩ = some (.int .u32 (R : Int)) := (hbx.below.cell (p := ⟨b, off, none⟩) (cell_lt (hc 0 (by omega)))).trans (hc 0 (by omega))
    clear hc
    go_wp2
    go_loopw [4, 5] (fun u i wr => ((u = .int .u64 0 ∧ i = .int .i64 0) ∨ (u = .int .u64 (R : Int) ∧ i = .int .i64 1)) ∧ wr = W0) (fun _ i _ => 1 - (intOf i).toNat)
    case atStart => exact ⟨Or.inl ⟨rfl, rfl⟩, rfl⟩
    case round =>
      obtain ⟨⟨rfl, rfl⟩ | ⟨rfl, rfl⟩, rfl⟩ := hrel
      · have hor : bits BinOp.or IntKind.u64 0 (R : Int) = (R : Int) := by
          have h := bits_or_u64_nat 0 R (by omega) (by omega)
          rw [Nat.zero_or] at h
          exact h
        go_wp2
        go_roundw
        case rel => exact ⟨Or.inr ⟨rfl, rfl⟩, by trivial⟩
        case measure => simp [intOf]
      · go_wp2
        go_ret2
        exact ⟨rfl, hbx.below⟩
set_option maxRecDepth 100000 in
theorem ref02_Right (neg : Bool) (na : Option Addr) (nn ncap : Nat) (nl : List Nat) (w : World) (hN : Sl w na nn ncap nl) (hnn : nn ≤ 1000000000) :
    Calls Tryd.prog 17 #[.agg #[.bool neg, .slice na nn ncap]] w fun e w' => e = .returned (.bool (rightW neg nl)) ∧ Below w.heap.size w w' := by
  have hbx := boxes1 w #[.bool neg, .slice na nn ncap] 25
  have en := hN.len
  by_cases h0 : nn = 0
  · have HE : Hid (rightW neg nl = !neg) := by show _ = _; unfold rightW; rw [if_pos (by omega)]
    subst h0
    clear en
    rw [HE.out]
    go_enter Tryd.func17, Tryd.ntmps17
    go_wp2
    go_ret
    exact ⟨rfl, hbx.below⟩
  · rcases hN.rd with h | ⟨b, off, rfl, hc⟩
    · omega
    have hkm : nn - 1 < nn := by omega
    have c1 : (w.alloc (.cells #[.bool neg, .slice (some ⟨b, off, none⟩) nn ncap] 25)).cell? ⟨b, off + (nn - 1), none⟩ = some (.int .u32 (nth nl (nn - 1) : Nat)) := (hbx.below.cell (p := ⟨b, off + (nn - 1), none⟩) (cell_lt (hc (nn - 1) hkm))).trans (hc (nn - 1) hkm)
    have hq : ((nn : Int) == 0) = false := by simp; omega
    have s1 : (1 : Int) ≤ (nn : Int) := by omega
    have HB : Hid (rightW neg nl = decide (nth nl (nn - 1) ≠ 0)) := by show _ = _; unfold rightW; rw [if_neg (by omega), en]
    rw [HB.out]
    obtain ⟨bv, hbv⟩ : ∃ bv, bv = decide (nth nl (nn - 1) ≠ 0) := ⟨_, rfl⟩
    have hz : ((nth nl (nn - 1) : Int) != 0) = bv := by
      rw [hbv]
      by_cases h : nth nl (nn - 1) = 0
      · rw [h]; rfl
      · rw [decide_eq_true h]; simp [h]
    rw [← hbv]
    clear hc h0 en hbv
    generalize hW0 : (w.alloc (.cells #[.bool neg, .slice (some ⟨b, off, none⟩) nn ncap] 25)) = W0 at *
    have HW0 := Alg.hid hW0
    clear hW0
    have d0 : W0.cell? ⟨w.heap.size, 0, none⟩ = some (.bool neg) := hbx.cell' 0 0 _ _ rfl rfl
    have d1 : W0.cell? ⟨w.heap.size, 1, none⟩ = some (.slice (some ⟨b, off, none⟩) nn ncap) := hbx.cell' 0 1 _ _ rfl rfl
    go_enter Tryd.func17, Tryd.ntmps17
    go_upto_region 1 with fail
    rw [HW0.out]
    go_wp2
    go_ret
    exact ⟨by rw [← hz]; rfl, hbx.below⟩
theorem remZ_f (p A : Nat) : remZ p false A = A % p := by unfold remZ; rw [if_neg (by simp)]
theorem ref02_DivMod1 (neg : Bool) (a : Option Addr) (n cap : Nat) (la : List Nat) (b : Option Addr) (m cap' : Nat) (p : Nat) (w : World) (ha : Sl w a n cap la) (hb : Sl w b m cap' (lim p)) (hn : n ≤ 100000) (hp0 : 0 < p) (hp : p < 4294967296) :
    ∃ qs Q, Calls Tryd.prog 74 #[.agg #[.bool neg, .slice a n cap], .agg #[.bool false, .slice b m cap']] w (RetQ3 qs Q (remZ p neg (valN la)) w) := by
  have hl := lim_one hp0 hp
  have hb' := hb
  have hm : m = 1 := by rw [← hb.len, hl]; rfl
  have hv : valN (lim p) = p := valN_lim p
  cases neg with
  | false =>
    refine ⟨false, valN la / p, ref02_DivMod false _ _ _ a n cap b m cap' w (by omega) fun W hW => ?_⟩
    have h := ref02_Quo_p a n cap la b m cap' (lim p) W (ha.mono hW) (hb.mono hW) (lim_canon p) hn (by omega) (by omega)
    rw [hv] at h
    rw [remZ_f]
    exact h
  | true =>
    by_cases hz : valN la % p = 0
    · refine ⟨true, valN la / p, ref02_DivMod true _ _ _ a n cap b m cap' w (by omega) fun W hW => ?_⟩
      have h := ref02_Quo_z a n cap la b m cap' (lim p) W (ha.mono hW) (hb.mono hW) (lim_canon p) hn (by omega) (by omega) (by rw [hv]; exact hz)
      rw [hv] at h
      have e : remZ p true (valN la) = valN la % p := by unfold remZ; rw [if_neg (fun h => h.2 hz)]
      rw [e]
      exact h
    · refine ⟨true, valN la / p + 1, ref02_DivMod true _ _ _ a n cap b m cap' w (by omega) fun W hW => ?_⟩
      have h := ref02_Quo_n a n cap la b m cap' (lim p) W (ha.mono hW) (hb.mono hW) (lim_canon p) hn (by omega) (by omega) (by rw [hv]; exact hz)
      rw [hv] at h
      have e : remZ p true (valN la) = p - valN la % p := by unfold remZ; rw [if_pos ⟨rfl, hz⟩]
      rw [e]
      exact h
set_option maxRecDepth 100000 in
set_option maxHeartbeats 1000000 in
theorem ref07_From (p : Nat) (neg : Bool) (a : Option Addr) (n cap : Nat) (la : List Nat) (w : World) (ha : Sl w a n cap la) (hn : n ≤ 100000) (hp0 : 0 < p) (hp : p < 4294967296) :
    Calls Tryd.prog 20 #[.int .u32 (p : Int), .agg #[.bool neg, .slice a n cap]] w fun e w' => e = .returned (.int .u32 (remZ p neg (valN la) : Nat)) ∧ Below w.heap.size w w' := by
  have hbx := boxes1 w #[.bool neg, .slice a n cap] 25
  have hRl := remZ_lt (A := valN la) (neg := neg) hp0
  have HDM := Alg.hid (fun (b : Option Addr) (m cap' : Nat) (W : World) (h1 : Below w.heap.size w W) (h2 : Sl W b m cap' (lim p)) => ref02_DivMod1 neg a n cap la b m cap' p W (ha.mono h1) h2 hn hp0 hp)
  generalize remZ p neg (valN la) = R at hRl HDM ⊢
  have hpw : IntKind.i64.wrap (p : Int) = (p : Int) := by rw [IntKind.wrap_i64]; omega
  have hRw : IntKind.u32.wrap (R : Int) = (R : Int) := IntWalk.u32_in _ (by omega)
  go_enter Tryd.func20, Tryd.ntmps20
  go_upto_region 1 with fail
  generalize hW0 : w.alloc (.cells #[.bool neg, .slice a n cap] 25) = W0 at hbx ⊢
  clear hW0
  have hxd := hbx.drew
  have KR : Hid (∀ W, Below W0.drew.heap.size W0.drew W → W.cell? ⟨w.heap.size, 0, none⟩ = some (.bool neg) ∧ W.cell? ⟨w.heap.size, 1, none⟩ = some (.slice a n cap)) := fun W h => ⟨(hxd.mono h).cell' 0 0 _ _ rfl rfl, (hxd.mono h).cell' 0 1 _ _ rfl rfl⟩
  refine wp_region_layE [(11, 7), (11, 8)] 11 [(true, 0), (true, 1), (true, 2), (false, 3), (false, 4), (true, 5), (true, 6), (true, 7), (true, 8)] [⟨9, 5, #[.bool false, .slice none 0 0], 25⟩, ⟨10, 6, #[.bool false, .slice none 0 0], 25⟩] (by kernel_rfl) (by kernel_rfl) (by kernel_rfl) (fun x hx o ho ρ W => ?_) (fun v0 hv0 => ?_)
  · simp only [List.mem_cons, List.not_mem_nil, or_false] at hx
    rcases hx with rfl | rfl
    all_goals (obtain rfl := Option.some.inj ho; go_simp)
  simp only [pick, List.getElem?_cons_succ, List.getElem?_cons_zero]
  iterate 3
    (refine heldR_quiet (v := ?_) (by rfl) ?_ ?_
     rotate_left
     · intro W hW; obtain ⟨d0, d1⟩ := KR.out W hW; go_simp; (try with_reducible rfl)
     try simp only [Act.put, List.setIfInBounds_toArray, List.set_cons_zero, List.set_cons_succ])
  refine heldR_loud (fun K' hK => ?_)
  go_simp
  refine (ref02_Of_nn p v0 (by omega)).mono ?_
  rintro e vA ⟨oa, on, oc, rfl, hso, hbA, _⟩
  rw [sg_f]
  refine hK.out _ _ (hbA) (fun v1 hv1 => ?_)
  clear hK K'
  have rv1 := (hv0.tr hbA).tr hv1
  have hso1 := hso.mono hv1
  try simp only [Act.put, List.setIfInBounds_toArray, List.set_cons_zero, List.set_cons_succ]
  refine heldR_loud (fun K' hK => ?_)
  go_simp
  obtain ⟨qs, Q, hDM⟩ := HDM.out oa on oc v1 (hxd.mono rv1).below hso1
  refine hDM.mono ?_
  rintro e vB ⟨xa, xn, xc, ya, yn, yc, rfl, hX, hY, hbB, _, _⟩
  rw [sg_f]
  clear hDM
  refine hK.out _ _ (hbB) (fun v2 hv2 => ?_)
  clear hK K'
  have rv2 := (rv1.tr hbB).tr hv2
  have hX2 := hX.mono hv2
  have hY2 := hY.mono hv2
  try simp only [Act.put, List.setIfInBounds_toArray, List.set_cons_zero, List.set_cons_succ]
  iterate 4
    (refine heldR_quiet (v := ?_) (by rfl) ?_ ?_
     rotate_left
     · intro W hW; obtain ⟨d0, d1⟩ := KR.out W hW; go_simp; (try with_reducible rfl)
     try simp only [Act.put, List.setIfInBounds_toArray, List.set_cons_zero, List.set_cons_succ])
  refine heldR_nil ?_
  intro bl wz hRz hSz hGz
  obtain ⟨b8, b9, hact, hne89, hb8, hb9, ho8, ho9⟩ := good2 (by decide) hSz hGz
  have hne98 : b9 ≠ b8 := fun e => hne89 e.symm
  rw [hact]
  have rvz := rv2.tr hRz
  have hYz := hY2.mono hRz
  have of9 := off_newI ho9 hYz
  have of8 := off_newI ho8 hYz
  have xb8 := box_of_obj ho8
  have g80 := xb8.cell 0 _ rfl
  have g81 := xb8.cell 1 _ rfl
  have z80 := xb8.frozen 0
  have z81 := xb8.frozen 1
  have xb9 := box_of_obj ho9
  have g90 := xb9.cell 0 _ rfl
  have g91 := xb9.cell 1 _ rfl
  have z90 := xb9.frozen 0
  have z91 := xb9.frozen 1
  simp only [List.drop_succ_cons, List.drop_zero]
  (try simp only [Act.put, List.setIfInBounds_toArray, List.set_cons_zero, List.set_cons_succ])
  go_wp2
  refine NoPanic.normal ?_
  have hQe : Below W0.drew.heap.size W0.drew ((((wz.setCell ⟨b8, 0, none⟩ (.bool (sg qs xn))).setCell ⟨b8, 1, none⟩ (.slice xa xn xc)).setCell ⟨b9, 0, none⟩ (.bool false)).setCell ⟨b9, 1, none⟩ (.slice ya yn yc)) := ((((rvz.setCell (p := ⟨b8, 0, none⟩) hb8 _).setCell (p := ⟨b8, 1, none⟩) hb8 _).setCell (p := ⟨b9, 0, none⟩) hb9 _).setCell (p := ⟨b9, 1, none⟩) hb9 _)
  have hx9 := hxd.mono hQe
  have xr : Box ((((wz.setCell ⟨b8, 0, none⟩ (.bool (sg qs xn))).setCell ⟨b8, 1, none⟩ (.slice xa xn xc)).setCell ⟨b9, 0, none⟩ (.bool false)).setCell ⟨b9, 1, none⟩ (.slice ya yn yc)) b9 #[.bool false, .slice ya yn yc] := (xb9.other2 hne98 _ _).put2 _ _
  have tr : Sl ((((wz.setCell ⟨b8, 0, none⟩ (.bool (sg qs xn))).setCell ⟨b8, 1, none⟩ (.slice xa xn xc)).setCell ⟨b9, 0, none⟩ (.bool false)).setCell ⟨b9, 1, none⟩ (.slice ya yn yc)) ya yn yc (lim R) := (((hYz.setCell of8 _).setCell of8 _).setCell of9 _).setCell of9 _
  generalize hwd : ((((wz.setCell ⟨b8, 0, none⟩ (.bool (sg qs xn))).setCell ⟨b8, 1, none⟩ (.slice xa xn xc)).setCell ⟨b9, 0, none⟩ (.bool false)).setCell ⟨b9, 1, none⟩ (.slice ya yn yc)) = wd at hx9 xr tr ⊢
  clear hwd hQe of9 ho9 hX2 hX hY2 hYz hY rv2 rvz hv2 hbB hRz hSz hGz hact hb9 xb9 g90 g91 z90 z91 hbA hso hso1 rv1 hv1 hv0 KR hxd of8 hb8 ho8 hne89 hne98 xb8 g80 g81 z80 z81 HDM
  have q0 := xr.cell 0 _ rfl
  have q1 := xr.cell 1 _ rfl
  go_wp2_with fail
  refine (ref02_Int1 R ya yn yc wd tr (by omega)).mono ?_
  rintro e w4 ⟨rfl, hb4⟩
  have hx4 := hx9.mono hb4
  go_wp2
  go_ret
  exact ⟨rfl, hx4.below⟩
end Go.Proofs.YtbnjmeeaaieicaaDoor
