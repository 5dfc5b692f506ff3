/- Contract of the reference's DivMod, the long case. -/
import Derived.Test.YtcefhnmhcapccaaDoorW15
open Alg Go Go.RowKit
namespace Alg
theorem subM_ref {p a b : Nat} (hb : b < p) : ((a : Int) + p - b).tmod (p : Int) = (subM p a b : Int) := by
  have e : (a : Int) + p - b = ((a + p - b : Nat) : Int) := by omega
  rw [e, Int.tmod_eq_emod_of_nonneg (by omega)]
  unfold subM addM negM
  by_cases h : b = 0
  · subst h; rw [if_pos rfl, Nat.sub_zero, Nat.add_zero]; simp
  · rw [if_neg h, show a + p - b = a + (p - b) by omega]; rfl
theorem Gr.shape1 {w : World} {e : TypeId} {B : Nat} {v : Value} {n : Nat} {l : List Nat} (h : Gr w e B v n l) (h0 : 0 < n) :
    ∃ g cap, v = .slice (some ⟨g, 0, none⟩) n cap ∧ B ≤ g ∧ g < w.heap.size ∧ n ≤ cap ∧ cap ≤ maxLen := by
  rcases h.shape with ⟨_, h1⟩ | h1
  · omega
  · exact h1
end Alg
namespace Go.Proofs.YtcefhnmhcapccaaDoor
open Go.RowKit
set_option maxRecDepth 100000 in
set_option maxHeartbeats 4000000 in
theorem ref_DivMore1 (p : Nat) (x : Addr) (fn fcap : Nat) (fl : List Nat) (ga : Option Addr) (gn gcap : Nat) (gl : List Nat) (q : Int) (w : World) (hf : Sl w (some x) fn fcap fl) (hg : Sl w ga gn gcap gl)
    (hg0 : 0 < gn) (m : Nat) (hm : m + gn = fn + 1) (hm0 : 0 < m) (hp0 : 1 < p) (hp : p < 4294967296) (hfn : fn ≤ 1099511627776) (hgn : gn ≤ 1099511627776) :
    Calls Tryd.prog 15 #[.agg #[.int .u32 p, .slice (some x) fn fcap], .agg #[.int .u32 q, .slice ga gn gcap]] w (RetD p (stepsD p (powM p (nth gl (gn - 1)) (p - 2)) gl m fl m) w) := by
  obtain ⟨i0, hi, hz0, hz1, hz2⟩ := info_parts Tryd.infoU15
  have hL : (fn : Int) - (gn : Int) + 1 = (m : Int) := by omega
  have HL := Alg.hid hL
  clear hL
  rcases hg.rd with h0 | ⟨b', off', rfl, hcg⟩
  · omega
  have HG := Alg.hid hcg
  clear hcg
  have hbx := boxes4 w #[.int .u32 (p : Int), .slice (some x) fn fcap] #[.int .u32 q, .slice (some ⟨b', off', none⟩) gn gcap] #[.int .u32 0, .slice none 0 0] #[.int .u32 0, .slice none 0 0] 25 25 25 25
  have hbxl := hbx.less 2
  have hgb : ((gn : Int) == 0) = false := by simp; omega
  have hgm := hg.lt (gn - 1)
  have K : Hid (∀ W, Boxes w W [#[.int .u32 (p : Int), .slice (some x) fn fcap], #[.int .u32 q, .slice (some ⟨b', off', none⟩) gn gcap]] → W.cell? ⟨w.heap.size, 0, none⟩ = some (.int .u32 (p : Int)) ∧ W.cell? ⟨w.heap.size, 1, none⟩ = some (.slice (some x) fn fcap) ∧ W.cell? ⟨w.heap.size + 1, 0, none⟩ = some (.int .u32 q) ∧ W.cell? ⟨w.heap.size + 1, 1, none⟩ = some (.slice (some ⟨b', off', none⟩) gn gcap) ∧ W.cell? ⟨b', off' + (gn - 1), none⟩ = some (.int .u32 (nth gl (gn - 1) : Nat)) ∧ Boxes w W [#[.int .u32 (p : Int), .slice (some x) fn fcap], #[.int .u32 q, .slice (some ⟨b', off', none⟩) gn gcap]]) :=
    fun W h => ⟨h.cell' 0 0 _ _ rfl rfl, h.cell' 0 1 _ _ rfl rfl, h.cell' 1 0 _ _ rfl rfl, h.cell' 1 1 _ _ rfl rfl, (h.below.cell (p := ⟨b', off' + (gn - 1), none⟩) (cell_lt (HG.out (gn - 1) (by omega)))).trans (HG.out (gn - 1) (by omega)), h⟩
  have hinv : powM p (nth gl (gn - 1)) (p - 2) < p := powM_lt _ _ _ (by omega)
  have s1 : (0 : Int) ≤ (gn : Int) - 1 := by omega
  have s1' : (1 : Int) ≤ (gn : Int) := by omega
  have s2 : (gn : Int) - 1 < gn := by omega
  have s3 : ((gn : Int) - 1).toNat = gn - 1 := by omega
  have s4 : IntKind.i64.wrap ((gn : Int) - 1) = (gn : Int) - 1 := IntWalk.i64_in _ (by omega)
  have s5 : IntKind.u64.wrap (powM p (nth gl (gn - 1)) (p - 2) : Int) = (powM p (nth gl (gn - 1)) (p - 2) : Int) := IntWalk.u64_in _ (by omega)
  go_enter Tryd.func15, Tryd.ntmps15
  go_wp2
  go_region_held3 (fun W => W.cell? ⟨w.heap.size, 0, none⟩ = some (.int .u32 (p : Int)) ∧ W.cell? ⟨w.heap.size, 1, none⟩ = some (.slice (some x) fn fcap) ∧ W.cell? ⟨w.heap.size + 1, 0, none⟩ = some (.int .u32 q) ∧ W.cell? ⟨w.heap.size + 1, 1, none⟩ = some (.slice (some ⟨b', off', none⟩) gn gcap) ∧ W.cell? ⟨b', off' + (gn - 1), none⟩ = some (.int .u32 (nth gl (gn - 1) : Nat)) ∧ Boxes w W [#[.int .u32 (p : Int), .slice (some x) fn fcap], #[.int .u32 q, .slice (some ⟨b', off', none⟩) gn gcap]])
    (first | (exact K.out _ (by assumption)) | (exact K.out _ hbxl.drew) | fail)
    (first
      | (go_at_call 61; refine (ref_inverse p (nth gl (gn - 1)) _ hp0 hp hgm).mono ?_; rintro e w2 ⟨rfl, hw2⟩; have hx1 : Boxes w w2 [#[.int .u32 (p : Int), .slice (some x) fn fcap], #[.int .u32 q, .slice (some ⟨b', off', none⟩) gn gcap], #[.int .u32 0, .slice none 0 0], #[.int .u32 0, .slice none 0 0]] := (by rw [hw2]; exact hbx.drew); clear hw2; have hx1' := hx1.less 2) | fail)
  clear s1 s1' s2 s3 s4 s5
  generalize powM p (nth gl (gn - 1)) (p - 2) = inv at *
  have hf1 := hf.mono hx1.below
  have d1 : (w2.alloc (.cells #[] 22)).cell? ⟨w.heap.size, 1, none⟩ = some (.slice (some x) fn fcap) := (hx1.alloc_any _).cell' 0 1 _ _ rfl rfl
  have hs4 : w.heap.size + 4 ≤ w2.heap.size := by have := hx1.size; simpa using this
  have HN := Alg.hid (Sl.news (hf1.mono ((Below.refl w2.heap.size w2).alloc (Nat.le_refl _) (.cells #[] 22))))
  have HO := Alg.hid (own_fresh w2 22)
  have H1 := Alg.hid (vals_one fl)
  have HV : Hid ((vals fl).length = fn * 1) := Alg.hid (by simp [vals, hf.len])
  have q1 : 0 + fn ≤ maxLen := by unfold maxLen; omega
  have q2 : (0 + fn) * 4 ≤ 140737488355328 := by omega
  have hfn0 : 0 < fn := by omega
  go_wp2_with (first
    | (at_builtin; refine wpList_append_own _ rfl _ _ 23 rfl w2.heap.size 22 i0 (.int .u32 0) 1 4 Tryd.underlying23 hi hz0 hz1 hz2 rfl Nat.one_pos _ 0 [] rfl HO.out x fn fcap (vals fl) rfl HV.out HN.out H1.out q1 q2 (size_le_alloc _ _) ?_; intro v' w3 hown1 hgrow _; have hb3 : Below w2.heap.size w2 w3 := ((Below.refl w2.heap.size w2).alloc (Nat.le_refl _) _).grown hgrow (by simp) (own_row_le _); have hx3 := hx1.mono hb3; have dd1 : w3.cell? ⟨w.heap.size, 1, none⟩ = some (.slice (some x) fn fcap) := hx3.cell' 0 1 _ _ rfl rfl; have hgr0 : Gr w3 22 w2.heap.size v' fn fl := ⟨(by simpa using hown1), hf.lt⟩; obtain ⟨rg, rcap, rfl, hrg, hrg2, _, hrc⟩ := hgr0.shape1 hfn0; have HR0 := Alg.hid hgr0.arr; clear hgr0 hown1 hgrow; have hrg4 : w.heap.size + 4 ≤ rg := (by omega); have hrne : rg ≠ w3.heap.size := (by omega); have hqg4 : w.heap.size + 4 ≤ w3.heap.size := (by omega))
    | (at_make; refine wpList_make_full _ rfl _ _ 23 rfl w.heap.size 22 i0 (.int .u32 0) 1 Tryd.underlying23 hi hz0 hz1 .i64 .i64 _ _ m rfl rfl HL.out HL.out (by rw [hz2]; omega) (by unfold maxLen; omega) (by omega) ?_; rw [madeCells_u32]; intro w4 hown hgr; have hx4 := hx3.mono (below_grown hgr); have hR := HR0.out.mono (below_grown hgr); clear hgr; have hA : Arr w4 22 w.heap.size w3.heap.size m m (List.replicate m 0) := ⟨hown, fun i => by rw [← upto_zero (fun _ => 0) m, nth_upto]; split <;> decide⟩; clear hown; have d4 : w4.cell? ⟨w.heap.size, 1, none⟩ = some (.slice (some x) fn fcap) := hx4.cell' 0 1 _ _ rfl rfl)
    | fail)
  clear HN HO H1 HV d1 dd1
  go_loopw [11] (fun v wr => ∃ j, j ≤ m ∧ ((∃ k : Nat, v = .int .i64 k ∧ k + 1 + j = m) ∨ (v = .int .i64 (-1) ∧ j = m)) ∧ Arr wr 22 w2.heap.size rg fn rcap (stepsD p inv gl m fl j).2 ∧ Arr wr 22 w.heap.size w3.heap.size m m (stepsD p inv gl m fl j).1 ∧ Boxes w wr [#[.int .u32 (p : Int), .slice (some x) fn fcap], #[.int .u32 q, .slice (some ⟨b', off', none⟩) gn gcap], #[.int .u32 0, .slice none 0 0], #[.int .u32 0, .slice none 0 0]]) (fun v _ => (intOf v + 1).toNat)
  case atStart => exact ⟨0, Nat.zero_le _, Or.inl ⟨m - 1, by congr 1; omega, by omega⟩, hR, hA, hx4⟩
  case round =>
    clear hA hR hx4 d4
    obtain ⟨j, hj, hv, hR, hQ, hx⟩ := hrel
    obtain ⟨Q, R, hS⟩ : ∃ Q R, stepsD p inv gl m fl j = (Q, R) := ⟨_, _, rfl⟩
    rw [hS] at hR hQ
    simp only at hR hQ
    obtain ⟨wo, rfl⟩ : ∃ wo : World, wo = wr := ⟨_, rfl⟩
    have d0 : wo.cell? ⟨w.heap.size, 0, none⟩ = some (.int .u32 (p : Int)) := hx.cell' 0 0 _ _ rfl rfl
    have p1 : IntKind.u64.wrap (p : Int) = (p : Int) := IntWalk.u64_in _ (by omega)
    have p2 : ((p : Int) == 0) = false := by simp; omega
    have p3 : ¬ p = 0 := by omega
    rcases hv with ⟨k, rfl, hkj⟩ | ⟨rfl, rfl⟩
    · have hkf : k + gn - 1 < fn := by omega
      have cR := hR.cell hkf
      have lR := hR.lt (k + gn - 1)
      have hkm : k < m := by omega
      have cQ := hQ.cell hkm
      have fQ := hQ.frozen k
      have s1 : (0 : Int) ≤ (k : Int) + gn - 1 := by omega
      have s2 : (k : Int) + gn - 1 < fn := by omega
      have s3 : ((k : Int) + gn - 1).toNat = k + gn - 1 := by omega
      have s4 : IntKind.i64.wrap ((k : Int) + gn) = (k : Int) + gn := IntWalk.i64_in _ (by omega)
      have s5 : IntKind.i64.wrap ((k : Int) + gn - 1) = (k : Int) + gn - 1 := IntWalk.i64_in _ (by omega)
      have hinv' : inv < 4294967296 := by omega
      obtain ⟨b1, b2⟩ := cMul_le lR hinv'
      have hcp : mulM p (nth R (k + gn - 1)) inv < p := mulM_lt _ _ _ (by omega)
      have m1 : IntKind.u64.wrap (nth R (k + gn - 1) : Int) = (nth R (k + gn - 1) : Int) := IntWalk.u64_in _ (by omega)
      have m2 : IntKind.u64.wrap ((nth R (k + gn - 1) : Int) * (inv : Int)) = (nth R (k + gn - 1) : Int) * (inv : Int) := IntWalk.u64_in _ (by omega)
      have m3 : ((nth R (k + gn - 1) : Int) * (inv : Int)).tmod (p : Int) = (mulM p (nth R (k + gn - 1)) inv : Int) := by rw [Int.tmod_eq_emod_of_nonneg b2, mulM_cast]
      have m4 : IntKind.u64.wrap (mulM p (nth R (k + gn - 1)) inv : Int) = (mulM p (nth R (k + gn - 1)) inv : Int) := IntWalk.u64_in _ (by omega)
      have m5 : IntKind.u32.wrap (mulM p (nth R (k + gn - 1)) inv : Int) = (mulM p (nth R (k + gn - 1)) inv : Int) := IntWalk.u32_in _ (by omega)
      have HR := Alg.hid hR
      have HQ := Alg.hid hQ
      clear hR hQ
      go_wp2
      go_quiet (fail)
      clear s1 s2 s3 s4 s5 m1 m2 m3 m4 b1 b2
      have hx' := (hx.drewN nq).setCell (i := k) (u := .int .u32 (mulM p (nth R (k + gn - 1)) inv : Nat)) (g := w3.heap.size) (by simpa using hqg4)
      have d2 := hx'.cell' 1 1 _ _ rfl rfl
      generalize hc : mulM p (nth R (k + gn - 1)) inv = c at *
      have HC := Alg.hid hc
      clear hc
      have HQ' : Hid (Arr ((wo.drewN nq).setCell ⟨w3.heap.size, k, none⟩ (.int .u32 (c : Nat))) 22 w.heap.size w3.heap.size m m (Q.set k c)) := (HQ.out.mono (Alg.below_drewN wo nq)).set k c (by omega)
      have HR' : Hid (Arr ((wo.drewN nq).setCell ⟨w3.heap.size, k, none⟩ (.int .u32 (c : Nat))) 22 w2.heap.size rg fn rcap R) := (HR.out.mono (Alg.below_drewN wo nq)).other k hrne _
      go_wp2
      go_loopw [13] (fun v wr => ∃ i : Nat, v = .int .i64 i ∧ i ≤ gn ∧ Arr wr 22 w2.heap.size rg fn rcap (innerD p c k gl R i) ∧ Arr wr 22 w.heap.size w3.heap.size m m (Q.set k c) ∧ Boxes w wr [#[.int .u32 (p : Int), .slice (some x) fn fcap], #[.int .u32 q, .slice (some ⟨b', off', none⟩) gn gcap], #[.int .u32 0, .slice none 0 0], #[.int .u32 0, .slice none 0 0]]) (fun v _ => gn - (intOf v).toNat)
      case atStart => exact ⟨0, rfl, Nat.zero_le _, HR'.out, HQ'.out, hx'⟩
      case round =>
        clear hx' d2 HR' HQ' HR HQ hx d0 cR lR cQ fQ m5
        obtain ⟨i, rfl, hi', hR, hQ, hx⟩ := hrel
        by_cases hin : i < gn
        · have hki : k + i < fn := by omega
          have lR := hR.lt (k + i)
          have lG := hg.lt i
          have hx0 := hx.less 2
          have hgw := (hg.mono hx.below).drew
          have HR := Alg.hid hR
          have HQ := Alg.hid hQ
          clear hR hQ
          have hc4 : c < 4294967296 := by omega
          obtain ⟨b1, b2⟩ := cMul_le hc4 lG
          have hl := mulM_lt p c (nth gl i) (by omega)
          have m1 : IntKind.u64.wrap ((c : Int) * (nth gl i : Int)) = (c : Int) * (nth gl i : Int) := IntWalk.u64_in _ (by omega)
          have m2 : ((c : Int) * (nth gl i : Int)).tmod (p : Int) = (mulM p c (nth gl i) : Int) := by rw [Int.tmod_eq_emod_of_nonneg b2, mulM_cast]
          have m3 : IntKind.u64.wrap (mulM p c (nth gl i) : Int) = (mulM p c (nth gl i) : Int) := IntWalk.u64_in _ (by omega)
          go_wp2
          go_region_held3 (fun W => W.cell? ⟨w.heap.size, 0, none⟩ = some (.int .u32 (p : Int)) ∧ W.cell? ⟨w.heap.size, 1, none⟩ = some (.slice (some x) fn fcap) ∧ W.cell? ⟨w.heap.size + 1, 0, none⟩ = some (.int .u32 q) ∧ W.cell? ⟨w.heap.size + 1, 1, none⟩ = some (.slice (some ⟨b', off', none⟩) gn gcap) ∧ W.cell? ⟨b', off' + (gn - 1), none⟩ = some (.int .u32 (nth gl (gn - 1) : Nat)) ∧ Boxes w W [#[.int .u32 (p : Int), .slice (some x) fn fcap], #[.int .u32 q, .slice (some ⟨b', off', none⟩) gn gcap]])
            (first | (exact K.out _ (by assumption)) | (exact K.out _ hx0.drew) | fail)
            (first
              | (go_at_call 62; refine (ref_at q (some ⟨b', off', none⟩) gn gcap gl i _ hgw).mono ?_; rintro e w6 ⟨rfl, hb6⟩; have hx6 := hx.drew.mono hb6; have hx6' := hx6.less 2; have HR6 := Alg.hid (HR.out.drew.mono hb6); have HQ6 := Alg.hid (HQ.out.drew.mono hb6)) | fail)
          clear m1 m2 m3 b1 b2 HR HQ
          generalize hle : mulM p c (nth gl i) = ls at *
          have HLS := Alg.hid hle
          clear hle
          have cR := HR6.out.cell hki
          have fR := HR6.out.frozen (k + i)
          have d6 : w6.cell? ⟨w.heap.size, 0, none⟩ = some (.int .u32 (p : Int)) := hx6.cell' 0 0 _ _ rfl rfl
          generalize hy : nth (innerD p c k gl R i) (k + i) = y at *
          have hsp := subM_lt p y ls (by omega)
          have s1 : (0 : Int) ≤ (k : Int) + i := by omega
          have s2 : (k : Int) + i < fn := by omega
          have s3 : ((k : Int) + i).toNat = k + i := by omega
          have s4 : IntKind.i64.wrap ((k : Int) + i) = (k : Int) + i := IntWalk.i64_in _ (by omega)
          have t1 : IntKind.u64.wrap (y : Int) = (y : Int) := IntWalk.u64_in _ (by omega)
          have t2 : IntKind.u64.wrap ((y : Int) + p) = (y : Int) + p := IntWalk.u64_in _ (by omega)
          have t3 : IntKind.u64.wrap ((y : Int) + p - ls) = (y : Int) + p - ls := IntWalk.u64_in _ (by omega)
          have t4 : ((y : Int) + p - ls).tmod (p : Int) = (subM p y ls : Int) := subM_ref hl
          have t5 : IntKind.u64.wrap (subM p y ls : Int) = (subM p y ls : Int) := IntWalk.u64_in _ (by omega)
          have t6 : IntKind.u32.wrap (subM p y ls : Int) = (subM p y ls : Int) := IntWalk.u32_in _ (by omega)
          have HY := Alg.hid hy
          clear hy
          go_wp2
          go_still_tail 23, (by kernel_rfl)
          repeat still_step
          try refine wpStill_nil ?_
          clear s4 s3 t1 t2 t3 t4 t5 t6
          change wpList _ _ _ _ _ w6.drew
          go_wp2
          go_roundw
          case rel =>
            refine ⟨i + 1, by go_num, by omega, ?_, (HQ6.out.other (k + i) hrne.symm _).drew, (hx6.setCell (by simpa using hrg4) _).drew⟩
            show Arr _ _ _ _ _ _ ((innerD p c k gl R i).set (k + i) (subM p (nth (innerD p c k gl R i) (k + i)) (mulM p c (nth gl i))))
            rw [HY.out, HLS.out]
            exact (HR6.out.set (k + i) _ (by omega)).drew
          case measure => simp [intOf]; omega
        · have ei : i = gn := by omega
          have hst := stepsD_step p inv gl m fl j k gn Q R hS hkj hg.len
          rw [HC.out, ← ei] at hst
          have HR := Alg.hid hR
          have HQ := Alg.hid hQ
          have HS := Alg.hid hst
          clear hst ei hR hQ
          go_wp2
          go_roundw
          case rel =>
            refine ⟨j + 1, by omega, ?_, by rw [HS.out]; exact HR.out, by rw [HS.out]; exact HQ.out, hx⟩
            by_cases k0 : k = 0
            · exact Or.inr ⟨by subst k0; rfl, by omega⟩
            · exact Or.inl ⟨k - 1, by congr 1; omega, by omega⟩
          case measure => simp [intOf]
    · have hRs := hR.sl hrc
      have hQs := hQ.sl (by omega)
      have hlR := hR.len
      have hlQ := hQ.len
      have hx0 := hx.less 2
      have HRs := Alg.hid hRs
      have HQs := Alg.hid hQs
      have hRd := hRs.drew
      have hQd := hQs.drew
      clear hR hQ hRs hQs
      have hz := hx.size
      go_wp2
      go_region_held3 (fun W => W.cell? ⟨w.heap.size, 0, none⟩ = some (.int .u32 (p : Int)) ∧ W.cell? ⟨w.heap.size, 1, none⟩ = some (.slice (some x) fn fcap) ∧ W.cell? ⟨w.heap.size + 1, 0, none⟩ = some (.int .u32 q) ∧ W.cell? ⟨w.heap.size + 1, 1, none⟩ = some (.slice (some ⟨b', off', none⟩) gn gcap) ∧ W.cell? ⟨b', off' + (gn - 1), none⟩ = some (.int .u32 (nth gl (gn - 1) : Nat)) ∧ Boxes w W [#[.int .u32 (p : Int), .slice (some x) fn fcap], #[.int .u32 q, .slice (some ⟨b', off', none⟩) gn gcap]])
        (first | (exact K.out _ (by assumption)) | (exact K.out _ hx0.drew) | (exact K.out _ (Boxes.setCell (Boxes.setCell hx5' (by simp; try omega) _) (by simp; try omega) _)) | (exact K.out _ (Boxes.setCell (Boxes.setCell (Boxes.setCell (Boxes.setCell hx5' (by simp; try omega) _) (by simp; try omega) _) (by simp; try omega) _) (by simp; try omega) _)) | fail)
        (first
          | (go_at_call 63; (with_reducible refine (ref_cut p _ j j Q wo.drew hQd).mono ?_); rintro e w4 ⟨a1, n1, cap1, rfl, hs4', hb4, hpv4⟩; have hx4 := hx.drew.mono hb4; have hx4' := hx4.less 2; have hr4 := hRd.mono hb4)
          | (go_at_call 63; (with_reducible refine (ref_cut p _ fn rcap R w4 hr4).mono ?_); rintro e w5 ⟨a2, n2, cap2, rfl, hs5, hb5, hpv5⟩; have hx5 := hx4.mono hb5; have hx5' := hx5.less 2; have hq5 := hs4'.mono hb5; have e0 : w5.cell? ⟨w.heap.size + 1 + 1, 0, none⟩ = some (.int .u32 0) := hx5.cell' 2 0 _ _ rfl rfl; have e1 : w5.cell? ⟨w.heap.size + 1 + 1, 1, none⟩ = some (.slice none 0 0) := hx5.cell' 2 1 _ _ rfl rfl; have e2 : w5.cell? ⟨w.heap.size + 1 + 1 + 1, 0, none⟩ = some (.int .u32 0) := hx5.cell' 3 0 _ _ rfl rfl; have e3 : w5.cell? ⟨w.heap.size + 1 + 1 + 1, 1, none⟩ = some (.slice none 0 0) := hx5.cell' 3 1 _ _ rfl rfl; have f0 : w5.frozen? ⟨w.heap.size + 1 + 1, 0, none⟩ = false := hx5.frozen' 2 0 (by simp); have f1 : w5.frozen? ⟨w.heap.size + 1 + 1, 1, none⟩ = false := hx5.frozen' 2 1 (by simp); have f2 : w5.frozen? ⟨w.heap.size + 1 + 1 + 1, 0, none⟩ = false := hx5.frozen' 3 0 (by simp); have f3 : w5.frozen? ⟨w.heap.size + 1 + 1 + 1, 1, none⟩ = false := hx5.frozen' 3 1 (by simp)) | fail)
      all_goals
        go_wp2
        (try simp only [Exit.inBlock, Exit.then])
        refine bodyPost_ret (v := .tuple #[.agg #[.int .u32 (p : Int), .slice a1 n1 cap1], .agg #[.int .u32 (p : Int), .slice a2 n2 cap2], .int .i64 0]) (by simp [results, Tryd.results15, go_sem, e0, e1, e2, e3]) rfl ?_
        have hz4 := hx4.size
        simp at hz hz4
        have hz0' : wo.drew.heap.size = wo.heap.size := rfl
        have hofq : Off a1 n1 (w.heap.size + 1 + 1) := hpv4.offb (by omega) (by omega)
        have hofq' : Off a1 n1 (w.heap.size + 1 + 1 + 1) := hpv4.offb (by omega) (by omega)
        have hof : Off a2 n2 (w.heap.size + 1 + 1) := hpv5.offb (by omega) (by omega)
        have hof' : Off a2 n2 (w.heap.size + 1 + 1 + 1) := hpv5.offb (by omega) (by omega)
        have hbz : Below w.heap.size w w5 := hx5.below
        rw [hS]
        refine ⟨_, _, _, _, _, _, rfl, ?_, ?_, ?_, hpv4.new (by omega) (by omega), hpv5.new (by omega) (by omega)⟩
        · first
            | exact (((hq5.setCell hofq _).setCell hofq _).setCell hofq' _).setCell hofq' _
            | exact (((hq5.setCell hofq' _).setCell hofq' _).setCell hofq _).setCell hofq _
        · first
            | exact (((hs5.setCell hof _).setCell hof _).setCell hof' _).setCell hof' _
            | exact (((hs5.setCell hof' _).setCell hof' _).setCell hof _).setCell hof _
        · exact (((hbz.setCell (by simp; try omega) _).setCell (by simp; try omega) _).setCell (by simp; try omega) _).setCell (by simp; try omega) _
end Go.Proofs.YtcefhnmhcapccaaDoor
