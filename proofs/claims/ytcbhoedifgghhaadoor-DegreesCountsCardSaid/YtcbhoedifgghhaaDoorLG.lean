/- Contracts of the reference's Monic and Tried; the walk of DegreesTried. The walk of DegreesTried. How many monic polynomials are irreducible: the degrees of all whose degree divides d make p^d. The walk of DegreesCounts. -/
import Derived.Test.YtcbhoedifgghhaaDoorA23
import Derived.Test.YtcbhoedifgghhaaDoorLC
import Derived.Test.YtcbhoedifgghhaaDoorA28
section
open Alg Go Go.RowKit
namespace Alg
/-- the call hands back whether no polynomial divides -/
def RetTr (p : Nat) (f : List Nat) (w : World) (e : Ending) (w' : World) : Prop := (∃ b, e = .returned (.bool b) ∧ (b = true ↔ Tried p f)) ∧ Below w.heap.size w w'
end Alg
namespace Go.Proofs.YtcbhoedifgghhaaDoor
open Go.RowKit
set_option maxRecDepth 100000 in
set_option maxHeartbeats 800000 in
theorem ref15_Monic (p d N : Nat) (w : World) (hp1 : 1 < p) (hp : p < 4294967296) (hd : d ≤ 1000) (hN : N ≤ 1099511627776) :
    Calls Tryd.prog 32 #[.int .u32 (p : Int), .int .i64 (d : Int), .int .i64 (N : Int)] w (RetP p (digL p d N) [] w) := by
  obtain ⟨i0, hi, hz0, hz1, hz2⟩ := info_parts Tryd.infoU9
  have HI := Alg.hid hi
  have HQ0 := Alg.hid hz0
  have HQ1 := Alg.hid hz1
  have HQ2 := Alg.hid hz2
  clear hi hz0 hz1 hz2
  have xR0 := (Box.new w #[.int .u32 0, .slice none 0 0] 25).alloc (.cells #[.int .u32 (p : Int), .slice none 0 0] 25)
  have xF0 := Box.new (w.alloc (.cells #[.int .u32 0, .slice none 0 0] 25)) #[.int .u32 (p : Int), .slice none 0 0] 25
  have hb0 := ((Below.refl w.heap.size w).alloc (Nat.le_refl _) (.cells #[.int .u32 0, .slice none 0 0] 25)).alloc (size_le_alloc _ _) (.cells #[.int .u32 (p : Int), .slice none 0 0] 25)
  rw [World.size_alloc] at xF0
  have hz : ((w.alloc (.cells #[.int .u32 0, .slice none 0 0] 25)).alloc (.cells #[.int .u32 (p : Int), .slice none 0 0] 25)).heap.size = w.heap.size + 2 := by rw [World.size_alloc, World.size_alloc]
  have hpz : ((p : Int) == 0) = false := by simp; omega
  have hpz' : ¬ (p : Int) = 0 := by omega
  have hpn : ¬ p = 0 := by omega
  have hpw : IntKind.i64.wrap (p : Int) = (p : Int) := by rw [IntKind.wrap_i64]; omega
  go_enter Tryd.func32, Tryd.ntmps32
  go_upto_region 3 with fail
  generalize hW0 : ((w.alloc (.cells #[.int .u32 0, .slice none 0 0] 25)).alloc (.cells #[.int .u32 (p : Int), .slice none 0 0] 25)) = W0 at xR0 xF0 hb0 hz ⊢
  clear hW0
  have XR0 := Alg.hid xR0
  have XF0 := Alg.hid xF0
  have HB0 := Alg.hid hb0
  clear xR0 xF0 hb0
  go_loopw [2, 8] (fun m v wr => ∃ M I : Nat, ∃ vv : Value, m = .int .i64 M ∧ v = .int .i64 I ∧ I ≤ d ∧ M ≤ N ∧ Hid (M = N / p ^ I) ∧ Hid (Below w.heap.size w wr) ∧ Hid (Box wr w.heap.size #[.int .u32 0, .slice none 0 0]) ∧ Hid (Box wr (w.heap.size + 1) #[.int .u32 (p : Int), vv]) ∧ Hid (Gr wr 22 (w.heap.size + 2) vv I ((List.range I).map fun j => N / p ^ j % p)) ∧ w.heap.size + 2 ≤ wr.heap.size) (fun _ v _ => d - (intOf v).toNat)
  case atStart => exact ⟨N, 0, .slice none 0 0, rfl, rfl, Nat.zero_le _, Nat.le_refl _, (by show _ = _; rw [Nat.pow_zero, Nat.div_one]), HB0, XR0, XF0, Gr.nil _ _ _, by omega⟩
  case round =>
    clear XR0 XF0 HB0 hz
    obtain ⟨M, I, vv, rfl, rfl, hI, hMN, hM, hB, xR, xF, hG, hsz⟩ := hrel
    have q0 := xF.out.cell 0 _ rfl
    have q1 := xF.out.cell 1 _ rfl
    have hgrow : ∀ k, vv.ownBlock = some k → w.heap.size + 2 ≤ k := hG.out.row
    by_cases hId : I < d
    · have hId' : (I : Int) < (d : Int) := by omega
      obtain ⟨cc, hcc⟩ : ∃ c, c = M % p := ⟨_, rfl⟩
      obtain ⟨M2, hM2⟩ : ∃ m, m = M / p := ⟨_, rfl⟩
      have hcl : cc < p := by rw [hcc]; exact Nat.mod_lt _ (by omega)
      have k1 : (M : Int) % (p : Int) = (cc : Int) := by rw [hcc]; simp
      have k2 : (M : Int) / (p : Int) = (M2 : Int) := by rw [hM2]; simp
      have k3 : (M : Int).tmod (p : Int) = (cc : Int) := by rw [Int.tmod_eq_emod_of_nonneg (by omega)]; exact k1
      have k4 : (M : Int).tdiv (p : Int) = (M2 : Int) := by rw [Int.tdiv_eq_ediv_of_nonneg (by omega)]; exact k2
      have k5 : IntKind.u32.wrap (cc : Int) = (cc : Int) := IntWalk.u32_in _ (by omega)
      have hM2l : M2 ≤ M := by rw [hM2]; exact Nat.div_le_self _ _
      have k6 : IntKind.i64.wrap (M2 : Int) = (M2 : Int) := by rw [IntKind.wrap_i64]; omega
      have HM2 : Hid (M2 = N / p ^ (I + 1)) := by show _ = _; rw [hM2, hM.out, Nat.div_div_eq_div_mul, Nat.pow_succ]
      have HC : Hid (cc = N / p ^ I % p) := by show _ = _; rw [hcc, hM.out]
      have t1 : I + 1 ≤ maxLen := by unfold maxLen; omega
      have t2 : (I + 1) * 4 ≤ 140737488355328 := by omega
      have q3 : Hid (∀ u ∈ [Value.int .u32 (cc : Int)], Value.oneCell' u = true) := by show ∀ u ∈ _, _; simp [Value.oneCell']
      have KR : Hid (∀ W, Below wr.drew.heap.size wr.drew W → W.cell? ⟨w.heap.size + 1, 0, none⟩ = some (.int .u32 (p : Int)) ∧ W.cell? ⟨w.heap.size + 1, 1, none⟩ = some (vv)) := fun W h => ⟨(xF.out.drew.mono h).cell 0 _ rfl, (xF.out.drew.mono h).cell 1 _ rfl⟩
      have hR0 : Below wr.drew.heap.size wr.drew wr.drew := Below.refl _ _
      have HOWN := Alg.hid hG.out.drew.own
      clear hcc hM2
      go_upto_region 5 with fail
      clear q0 q1
      refine wp_region_noPanic ?_
      refine wp_region_held2 10 [(1, 0), (1, 1), (1, 2), (1, 3), (1, 4), (1, 5), (1, 6), (0, 7), (0, 8), (1, 9), (3, 10)] (fun W => W.cell? ⟨w.heap.size + 1, 0, none⟩ = some (.int .u32 (p : Int)) ∧ W.cell? ⟨w.heap.size + 1, 1, none⟩ = some (vv)) (fun _ => True) (by kernel_rfl) (by kernel_rfl) (fun _ _ _ _ _ h => h) (fun _ _ => trivial) (KR.out _ hR0) (fun _ => ?_)
      simp only [pick2, List.getElem?_cons_succ, List.getElem?_cons_zero]
      iterate 7
        (refine held2_early (v := ?_) (by rfl) ?_ ?_
         rotate_left
         · intro W hSw; (try dsimp only at hSw); go_simp; (try with_reducible rfl)
         try simp only [Act.put, List.setIfInBounds_toArray, List.set_cons_zero, List.set_cons_succ])
      refine held2_loud (fun K' hK => ?_)
      go_simp
      have r1 : Below wr.drew.heap.size wr.drew (wr.drew.alloc (.cells #[.int .u32 (cc : Int)] 22)) := (Below.refl _ _).alloc (Nat.le_refl _) _
      refine hK.out _ _ (KR.out _ r1) (fun _ => ?_)
      clear hK K'
      try simp only [Act.put, List.setIfInBounds_toArray, List.set_cons_zero, List.set_cons_succ]
      refine held2_loud (fun K' hK => ?_)
      refine step_append_lies _ (by rfl) _ _ 23 (by rfl) (w.heap.size + 2) 22 i0 _ 1 4 Tryd.underlying23 HI.out HQ0.out HQ1.out HQ2.out rfl Nat.one_pos _ I (vals ((List.range I).map fun j => N / p ^ j % p)) (by rfl) (HOWN.out.alloc _) ⟨wr.drew.heap.size, 0, none⟩ 1 1 [.int .u32 (cc : Int)] (by rfl) (by rfl) news_one q3.out Nat.one_pos t1 t2 (Nat.le_trans hsz (size_le_alloc _ _)) (wr.drew.heap.size + 1) (World.size_alloc _ _) ?_
      intro gg gc w9 hown9 hgrow9 hat9 hlt9
      have hbA : Below wr.heap.size wr (wr.drew.alloc (.cells #[.int .u32 (cc : Int)] 22)) := btrans (bdrew (Below.refl _ wr)) r1
      have xR9 := (xR.out.mono hbA).grown hgrow9 (fun e => by have := hgrow _ e; omega)
      have xF9 := (xF.out.mono hbA).grown hgrow9 (fun e => by have := hgrow _ e; omega)
      have hB9 := (bl hB.out hbA hB.out.size).grown hgrow9 (by have := hbA.size; have := hB.out.size; omega) (fun k e => by have := hgrow _ e; omega)
      have hG9 := Gr.snoc hown9 hG.out.lt (by omega)
      have k9 : w9.cell? ⟨w.heap.size + 1, 0, none⟩ = some (.int .u32 (p : Int)) ∧ w9.cell? ⟨w.heap.size + 1, 1, none⟩ = some (vv) := ⟨xF9.cell 0 _ rfl, xF9.cell 1 _ rfl⟩
      have z1 := xF9.frozen 1
      have sz9 : wr.heap.size + 1 ≤ w9.heap.size := by
        have h := hgrow9.size
        have e : ∀ W : World, W.drew.heap.size = W.heap.size := fun _ => rfl
        simp only [e, World.size_alloc] at h
        exact h
      refine hK.out _ _ (k9) (fun _ => ?_)
      clear hK K'
      try simp only [Act.put, List.setIfInBounds_toArray, List.set_cons_zero, List.set_cons_succ]
      iterate 1
        (refine held2_early (v := ?_) (by rfl) ?_ ?_
         rotate_left
         · intro W hSw; (try dsimp only at hSw); go_simp; (try with_reducible rfl)
         try simp only [Act.put, List.setIfInBounds_toArray, List.set_cons_zero, List.set_cons_succ])
      refine held2_store (fun K' hK => ?_)
      go_simp
      refine hK.out _ _ trivial (fun _ => ?_)
      clear hK K'
      try simp only [Act.put, List.setIfInBounds_toArray, List.set_cons_zero, List.set_cons_succ]
      refine held2_nil ?_
      refine NoPanic.normal ?_
      have xF10 := Alg.hid (xF9.put 1 (by simp) (.slice (some ⟨gg, 0, none⟩) (I + 1) gc))
      have xR10 := Alg.hid (xR9.other 1 (g := w.heap.size + 1) (by omega) (.slice (some ⟨gg, 0, none⟩) (I + 1) gc))
      have hB10 := Alg.hid (hB9.setCell (p := ⟨w.heap.size + 1, 1, none⟩) (by show w.heap.size ≤ w.heap.size + 1; omega) (.slice (some ⟨gg, 0, none⟩) (I + 1) gc))
      have hgg : w.heap.size + 2 ≤ gg := hG9.row gg rfl
      have hG10 : Hid (Gr (w9.setCell ⟨w.heap.size + 1, 1, none⟩ (.slice (some ⟨gg, 0, none⟩) (I + 1) gc)) 22 (w.heap.size + 2) (.slice (some ⟨gg, 0, none⟩) (I + 1) gc) (I + 1) ((List.range (I + 1)).map fun j => N / p ^ j % p)) := by
        show Gr _ _ _ _ _ _
        rw [List.range_succ, List.map_append, List.map_cons, List.map_nil, ← HC.out]
        refine ⟨hG9.own.kept (row := some (w.heap.size + 1)) ⟨rfl, rfl, rfl, by simp [World.setCell], fun k _ hk => Below.heap_setCell w9 ⟨w.heap.size + 1, 1, none⟩ _ k (fun e => hk (by rw [e]))⟩ (Or.inr fun e => ?_), hG9.lt⟩
        have : gg = w.heap.size + 1 := by simpa [Value.ownBlock] using e
        omega
      have sz10 : w.heap.size + 2 ≤ (w9.setCell ⟨w.heap.size + 1, 1, none⟩ (.slice (some ⟨gg, 0, none⟩) (I + 1) gc)).heap.size := by
        have : (w9.setCell ⟨w.heap.size + 1, 1, none⟩ (.slice (some ⟨gg, 0, none⟩) (I + 1) gc)).heap.size = w9.heap.size := by simp only [World.setCell, Array.size_modify]
        have h2 : wr.drew.heap.size = wr.heap.size := rfl
        omega
      clear KR HOWN hR0 xR xF hG hB hown9 hgrow9 hat9 hG9 xF9 xR9 hB9 k9 z1 hbA hgrow
      go_wp2
      go_roundw
      case rel => exact ⟨M2, I + 1, _, rfl, by go_num, by omega, by omega, HM2, hB10, xR10, xF10, hG10, sz10⟩
      case measure => simp [intOf]; omega
    · obtain rfl : I = d := by omega
      have hId' : ¬ (I : Int) < (I : Int) := by omega
      have t1 : I + 1 ≤ maxLen := by unfold maxLen; omega
      have t2 : (I + 1) * 4 ≤ 140737488355328 := by omega
      have q3 : Hid (∀ u ∈ [Value.int .u32 1], Value.oneCell' u = true) := by show ∀ u ∈ _, _; simp [Value.oneCell']
      go_wp2_with (first
        | (at_builtin; refine wpList_append_lies _ rfl _ _ 23 rfl (w.heap.size + 2) 22 i0 _ 1 4 Tryd.underlying23 HI.out HQ0.out HQ1.out HQ2.out rfl Nat.one_pos _ I (vals ((List.range I).map fun j => N / p ^ j % p)) rfl (hG.out.own.alloc _) ⟨wr.heap.size, 0, none⟩ 1 1 [.int .u32 1] rfl rfl news_one q3.out Nat.one_pos t1 t2 (Nat.le_trans hsz (size_le_alloc _ _)) (wr.heap.size + 1) (World.size_alloc _ _) ?_; intro gg gc w9 hown9 hgrow9 hat9 hlt9; have xR9 := Alg.hid ((xR.out.alloc (.cells #[.int .u32 1] 22)).grown hgrow9 (fun e => by have := hgrow _ e; omega)); have xF9 := Alg.hid ((xF.out.alloc (.cells #[.int .u32 1] 22)).grown hgrow9 (fun e => by have := hgrow _ e; omega)); clear q0 q1; have q0 := xF9.out.cell 0 _ rfl; have q1 := xF9.out.cell 1 _ rfl; have q2 := xF9.out.frozen 0; have q4 := xF9.out.frozen 1; have q5 := xR9.out.cell 0 _ rfl; have q6 := xR9.out.cell 1 _ rfl; have q7 := xR9.out.frozen 0; have q8 := xR9.out.frozen 1)
        | fail)
      (try simp only [Exit.inBlock, Exit.then])
      refine bodyPost_ret (v := .agg #[.int .u32 (p : Int), .slice (some ⟨gg, 0, none⟩) (I + 1) gc]) (by simp [results, Tryd.results32, go_sem, q5, q6]) rfl ?_
      have hG9 := Gr.snoc hown9 hG.out.lt (c := 1) (by decide)
      have hgg : w.heap.size + 2 ≤ gg := hG9.row gg rfl
      obtain ⟨a', cap', e1, s9, _⟩ := hG9.sl
      obtain ⟨rfl, _, rfl⟩ : some ⟨gg, 0, none⟩ = a' ∧ True ∧ gc = cap' := by simpa using e1
      have of1 : Off (some ⟨gg, 0, none⟩) (I + 1) (w.heap.size + 1) := Off.fresh (by omega)
      have of2 : Off (some ⟨gg, 0, none⟩) (I + 1) w.heap.size := Off.fresh (by omega)
      have hbA : Below wr.heap.size wr (wr.alloc (.cells #[.int .u32 1] 22)) := (Below.refl _ wr).alloc (Nat.le_refl _) _
      have hB9 := (bl hB.out hbA hB.out.size).grown hgrow9 (by have := hbA.size; have := hB.out.size; omega) (fun k e => by have := hgrow _ e; omega)
      exact ⟨_, _, _, rfl, ((s9.setCell of1 _).setCell of2 _).setCell of2 _, ((hB9.setCell (p := ⟨w.heap.size + 1, 1, none⟩) (by show w.heap.size ≤ w.heap.size + 1; omega) _).setCell (p := ⟨w.heap.size, 0, none⟩) (Nat.le_refl _) _).setCell (p := ⟨w.heap.size, 1, none⟩) (Nat.le_refl _) _, Or.inr (Or.inr ⟨gg, 0, none, rfl, by omega⟩)⟩
set_option maxRecDepth 100000 in
set_option maxHeartbeats 1000000 in
theorem ref15_Tried (p : Nat) (fa : Option Addr) (fn fcap : Nat) (fl : List Nat) (w : World) (hf : Sl w fa fn fcap fl) (hpr : IsPr p) (hp : p < 4294967296) (cf : Canon p fl) (hf2 : 2 ≤ fn) (hfn : fn ≤ 900) (hpow : p ^ ((fn - 1) / 2) ≤ 5000) :
    Calls Tryd.prog 29 #[.agg #[.int .u32 (p : Int), .slice fa fn fcap]] w (RetTr p fl w) := by
  haveI hne : NeZero p := ⟨by have := hpr.1; omega⟩
  have hp1 : 1 < p := hpr.1
  have hbx := boxes1 w #[.int .u32 (p : Int), .slice fa fn fcap] 25
  have lf := hf.len
  go_enter Tryd.func29, Tryd.ntmps29
  go_upto_region 1 with fail
  generalize hW0 : w.alloc (.cells #[.int .u32 (p : Int), .slice fa fn fcap] 25) = W0 at hbx ⊢
  clear hW0
  have K : Hid (∀ W, Boxes w W [#[.int .u32 (p : Int), .slice fa fn fcap]] → W.cell? ⟨w.heap.size, 0, none⟩ = some (.int .u32 (p : Int)) ∧ W.cell? ⟨w.heap.size, 1, none⟩ = some (.slice fa fn fcap)) := fun W h => ⟨h.cell' 0 0 _ _ rfl rfl, h.cell' 0 1 _ _ rfl rfl⟩
  obtain ⟨d0, d1⟩ := K.out W0 hbx
  go_wp2_with fail
  refine (ref_Deg (p : Int) fa fn fcap W0 (by omega)).mono ?_
  rintro e w1 ⟨rfl, hb1⟩
  have hx1 := Alg.hid (hbx.mono hb1)
  clear d0 d1 hbx hb1
  go_wp2
  go_loopw [4] (fun v wr => ∃ D : Nat, v = .int .i64 D ∧ 1 ≤ D ∧ D ≤ fn ∧ Hid (Boxes w wr [#[.int .u32 (p : Int), .slice fa fn fcap]]) ∧ Hid (∀ d, 1 ≤ d → d < D → ∀ i, i < p ^ d → remL p fl (digL p d i) ≠ [])) (fun v _ => fn + 1 - (intOf v).toNat)
  case atStart => exact ⟨1, rfl, Nat.le_refl _, by omega, hx1, fun d h1 h2 => absurd h1 (by omega)⟩
  case round =>
    clear hx1
    obtain ⟨D, rfl, hD1, hDf, hx, hall⟩ := hrel
    obtain ⟨d0, d1⟩ := K.out wr hx.out
    by_cases hDn : 2 * D ≤ fn - 1
    · have hDn' : (2 : Int) * (D : Int) ≤ (fn : Int) - 1 := by omega
      have hpd : p ^ D ≤ 5000 := Nat.le_trans (pow_ge hp1 (i := D) (d := (fn - 1) / 2) (by omega)) hpow
      have HPD := Alg.hid hpd
      clear hpd
      go_wp2_with fail
      refine (ref15_Power p D 5000 wr hp1 hp (by omega) (by omega) (by omega)).mono ?_
      rintro e w2 ⟨⟨R, rfl, hR⟩, rfl⟩
      have HRe : Hid (R = p ^ D) := hR.2.1 HPD.out
      have hRb : R ≤ 5000 := by rw [HRe.out]; exact HPD.out
      clear hR d0 d1
      have HX := hx
      clear hx
      go_wp2
      go_loopw [6] (fun v wr => ∃ I : Nat, v = .int .i64 I ∧ I ≤ R ∧ Hid (Boxes w wr [#[.int .u32 (p : Int), .slice fa fn fcap]]) ∧ Hid (∀ i, i < I → remL p fl (digL p D i) ≠ [])) (fun v _ => R - (intOf v).toNat)
      case atStart => exact ⟨0, rfl, Nat.zero_le _, HX, fun i hi => absurd hi (by omega)⟩
      case round =>
        clear HX
        obtain ⟨I, rfl, hI, hx, hin⟩ := hrel
        by_cases hIR : I < R
        · have hIR' : (I : Int) < (R : Int) := by omega
          have hfl : fl ≠ [] := fun e => by rw [e] at lf; simp at lf; omega
          have hdl := digL_len p D I
          have hdn : digL p D I ≠ [] := fun e => by rw [e] at hdl; simp at hdl
          have HDC := Alg.hid (digL_canon hpr D I)
          have HRC := Alg.hid (remL_md hpr cf HDC.out hdn).canon
          have HDL := Alg.hid hdl
          clear hdl hdn hfl
          have hxd := hx.out.drew
          have KR : Hid (∀ W, Below wr.drew.heap.size wr.drew W → W.cell? ⟨w.heap.size, 0, none⟩ = some (.int .u32 (p : Int)) ∧ W.cell? ⟨w.heap.size, 1, none⟩ = some (.slice fa fn fcap)) := fun W h => K.out W (hxd.mono h)
          have hfd := hf.mono hxd.below
          go_upto_region 9 with fail
          refine wp_region_layE [(13, 9), (13, 10)] 13 [(true, 0), (true, 1), (true, 2), (true, 3), (true, 4), (false, 5), (false, 6), (true, 7), (true, 8), (true, 9), (true, 10)] [⟨11, 7, #[.int .u32 0, .slice none 0 0], 25⟩, ⟨12, 8, #[.int .u32 0, .slice none 0 0], 25⟩] (by kernel_rfl) (by kernel_rfl) (by kernel_rfl) (fun x hx o ho ρ W => ?_) (fun v0 hv0 => ?_)
          · simp only [List.mem_cons, List.not_mem_nil, or_false] at hx
            rcases hx with rfl | rfl
            all_goals (obtain rfl := Option.some.inj ho; go_simp)
          simp only [pick, List.getElem?_cons_succ, List.getElem?_cons_zero]
          iterate 5
            (refine heldR_quiet (v := ?_) (by rfl) ?_ ?_
             rotate_left
             · intro W hW; obtain ⟨d0, d1⟩ := KR.out W hW; go_simp; (try with_reducible rfl)
             try simp only [Act.put, List.setIfInBounds_toArray, List.set_cons_zero, List.set_cons_succ])
          refine heldR_loud (fun K' hK => ?_)
          go_simp
          refine (ref15_Monic p D I v0 hp1 hp (by omega) (by omega)).mono ?_
          rintro e vA ⟨ma, mn, mc, rfl, hsM, hbA, _⟩
          refine hK.out _ _ (hbA) (fun v1 hv1 => ?_)
          clear hK K'
          have rv1 := (hv0.tr hbA).tr hv1
          have hsM1 := hsM.mono hv1
          have lsM := hsM1.len
          rw [HDL.out] at lsM
          try simp only [Act.put, List.setIfInBounds_toArray, List.set_cons_zero, List.set_cons_succ]
          refine heldR_loud (fun K' hK => ?_)
          go_simp
          refine (ref_DivMod p fa fn fcap fl ma mn mc (digL p D I) (p : Int) v1 (hfd.mono rv1) hsM1 (by omega) hp1 hp (by omega) (by omega)).mono ?_
          rintro e vB ⟨qa, qn, qc, ra, rn, rc, rfl, _, hY, hbB, _, _⟩
          refine hK.out _ _ (hbB) (fun v2 hv2 => ?_)
          clear hK K'
          have rv2 := (rv1.tr hbB).tr hv2
          have hY2 : Sl v2 ra rn rc (remL p fl (digL p D I)) := hY.mono hv2
          try simp only [Act.put, List.setIfInBounds_toArray, List.set_cons_zero, List.set_cons_succ]
          iterate 4
            (refine heldR_quiet (v := ?_) (by rfl) ?_ ?_
             rotate_left
             · intro W hW; obtain ⟨d0, d1⟩ := KR.out W hW; go_simp; (try with_reducible rfl)
             try simp only [Act.put, List.setIfInBounds_toArray, List.set_cons_zero, List.set_cons_succ])
          refine heldR_nil ?_
          intro bl wz hRz hSz hGz
          obtain ⟨b8, b9, hact, hne89, hb8, hb9, ho8, ho9⟩ := good2 (by decide) hSz hGz
          have hne98 : b9 ≠ b8 := fun e => hne89 e.symm
          rw [hact]
          have rvz := rv2.tr hRz
          have hYz := hY2.mono hRz
          have of9 := off_new ho9 hYz HRC.out
          have of8 := off_new ho8 hYz HRC.out
          have xb8 := box_of_obj ho8
          have g80 := xb8.cell 0 _ rfl
          have g81 := xb8.cell 1 _ rfl
          have z80 := xb8.frozen 0
          have z81 := xb8.frozen 1
          have xb9 := box_of_obj ho9
          have g90 := xb9.cell 0 _ rfl
          have g91 := xb9.cell 1 _ rfl
          have z90 := xb9.frozen 0
          have z91 := xb9.frozen 1
          simp only [List.drop_succ_cons, List.drop_zero]
          (try simp only [Act.put, List.setIfInBounds_toArray, List.set_cons_zero, List.set_cons_succ])
          go_wp2
          refine NoPanic.normal ?_
          have hQe : Below wr.drew.heap.size wr.drew ((((wz.setCell ⟨b8, 0, none⟩ (.int .u32 (p : Int))).setCell ⟨b8, 1, none⟩ (.slice qa qn qc)).setCell ⟨b9, 0, none⟩ (.int .u32 (p : Int))).setCell ⟨b9, 1, none⟩ (.slice ra rn rc)) := ((((rvz.setCell (p := ⟨b8, 0, none⟩) hb8 _).setCell (p := ⟨b8, 1, none⟩) hb8 _).setCell (p := ⟨b9, 0, none⟩) hb9 _).setCell (p := ⟨b9, 1, none⟩) hb9 _)
          have hx9 := Alg.hid (hxd.mono hQe)
          have xr : Box ((((wz.setCell ⟨b8, 0, none⟩ (.int .u32 (p : Int))).setCell ⟨b8, 1, none⟩ (.slice qa qn qc)).setCell ⟨b9, 0, none⟩ (.int .u32 (p : Int))).setCell ⟨b9, 1, none⟩ (.slice ra rn rc)) b9 #[.int .u32 (p : Int), .slice ra rn rc] := (xb9.other2 hne98 _ _).put2 _ _
          have lY := hYz.len
          have leY := hYz.le
          have lcY := hYz.cap
          generalize hwd : ((((wz.setCell ⟨b8, 0, none⟩ (.int .u32 (p : Int))).setCell ⟨b8, 1, none⟩ (.slice qa qn qc)).setCell ⟨b9, 0, none⟩ (.int .u32 (p : Int))).setCell ⟨b9, 1, none⟩ (.slice ra rn rc)) = wd at hx9 xr ⊢
          clear hwd hQe of9 ho9 hY2 hYz hY rv2 rvz hv2 hbB hRz hSz hGz hact hb9 xb9 g90 g91 z90 z91 hbA hsM hsM1 lsM rv1 hv1 hv0 KR hxd of8 hb8 ho8 hne89 hne98 xb8 g80 g81 z80 z81 hfd hx
          have q0 := xr.cell 0 _ rfl
          have q1 := xr.cell 1 _ rfl
          by_cases hr0 : rn = 0
          · have hr0' : ((rn : Int) == 0) = true := by rw [hr0]; rfl
            have hnil : Hid (remL p fl (digL p D I) = []) := List.length_eq_zero_iff.1 (by omega)
            have hxx := hx9.out.below
            clear lY hr0
            go_wp2
            go_ret
            exact ⟨⟨false, rfl, fun h => (by cases h), fun h => absurd hnil.out (h D hD1 (by omega) I (by rw [← HRe.out]; exact hIR))⟩, hxx⟩
          · have hr0' : ((rn : Int) == 0) = false := by simp; omega
            have hin2 : Hid (∀ i, i < I + 1 → remL p fl (digL p D i) ≠ []) := fun i hi => by
              by_cases e : i = I
              · subst e; intro h; rw [h] at lY; simp at lY; omega
              · exact hin.out i (by omega)
            clear lY hin hr0
            go_wp2
            go_roundw
            case rel => exact ⟨I + 1, by go_num, by omega, hx9, hin2⟩
            case measure => simp [intOf]; omega
        · obtain rfl : I = R := by omega
          have hIR' : ¬ (I : Int) < (I : Int) := by omega
          have hall2 : Hid (∀ d, 1 ≤ d → d < D + 1 → ∀ i, i < p ^ d → remL p fl (digL p d i) ≠ []) := fun d h1 h2 i hi => by
            by_cases e : d = D
            · subst e; rw [← HRe.out] at hi; exact hin.out i hi
            · exact hall.out d h1 (by omega) i hi
          clear hin hall
          go_wp2
          go_roundw
          case rel => exact ⟨D + 1, by go_num, by omega, by omega, hx, hall2⟩
          case measure => simp [intOf]; omega
    · have hDn' : ¬ (2 : Int) * (D : Int) ≤ (fn : Int) - 1 := by omega
      have hxx := hx.out.below
      go_wp2
      go_ret
      exact ⟨⟨true, rfl, fun _ d h1 h2 i hi => hall.out d h1 (by omega) i hi, fun _ => rfl⟩, hxx⟩
end Go.Proofs.YtcbhoedifgghhaaDoor
end
section
open Alg Go Go.RowKit
namespace Alg
theorem proveE_tried {p : Nat} (hp : IsPr p) (hp2 : p < 2147483648) {f : List Nat} (cf : Canon p f) (hm : monB f = true) (h2 : 2 ≤ f.length) : (proveE p f = 0 ∧ Tried p f) ∨ (proveE p f = 5 ∧ ¬ Tried p f) := by
  haveI hne : NeZero p := ⟨by have := hp.1; omega⟩
  have hmm := (monB_true.1 hm).2
  by_cases h : Tried p f
  · left
    refine ⟨?_, h⟩
    unfold proveE
    rw [if_pos ⟨hm, h2⟩, if_pos (holdsIB_yes ((prove_iff hp hp2 cf hmm h2).2 ((tried_iff hp cf h2).2 h)))]
  · right
    refine ⟨?_, h⟩
    unfold proveE
    rw [if_pos ⟨hm, h2⟩, if_neg (by rw [holdsIB_no (fun k => h ((tried_iff hp cf h2).1 ((prove_iff hp hp2 cf hmm h2).1 k)))]; simp)]
/-- what Prove hands back, with its error told -/
theorem RetPv.err {p : Nat} {l : List Nat} {w : World} {e : Ending} {w' : World} (h : RetPv p l w e w') : ∃ P1 l1 L1, RetPI P1 l1 L1 (proveE p l) w e w' := by
  rcases h with ⟨h, hR⟩ | ⟨h, hR⟩
  · exact ⟨_, _, _, by rw [h]; exact hR⟩
  · exact ⟨_, _, _, hR⟩
end Alg
namespace Go.Proofs.YtcbhoedifgghhaaDoor
open Go.RowKit
set_option maxRecDepth 100000 in
set_option maxHeartbeats 800000 in
theorem tried15_walk (p : Nat) (fa : Option Addr) (fn fcap : Nat) (fl : List Nat) (w : World) (hf : Sl w fa fn fcap fl) (hp : p < 4294967296) (hFC : ∀ q, q < 4294967296 → FieldC w q) :
    Calls Tryd.prog 6 #[.agg #[.int .u32 (p : Int), .slice fa fn fcap]] w fun e w' => e = .returned (.bool true) ∧ Below w.heap.size w w' := by
  have hbx := boxes1 w #[.int .u32 (p : Int), .slice fa fn fcap] 25
  have HFC := Alg.hid hFC
  have lf := hf.len
  clear hFC
  go_enter Tryd.func6, Tryd.ntmps6
  go_upto_region 1 with fail
  generalize hW0 : w.alloc (.cells #[.int .u32 (p : Int), .slice fa fn fcap] 25) = W0 at hbx ⊢
  clear hW0
  have K : Hid (∀ W, Boxes w W [#[.int .u32 (p : Int), .slice fa fn fcap]] → W.cell? ⟨w.heap.size, 0, none⟩ = some (.int .u32 (p : Int)) ∧ W.cell? ⟨w.heap.size, 1, none⟩ = some (.slice fa fn fcap)) := fun W h => ⟨h.cell' 0 0 _ _ rfl rfl, h.cell' 0 1 _ _ rfl rfl⟩
  go_wp2_with fail
  refine (awake15 W0 ((HFC.out 2 (by decide)).mono hbx.below)).mono ?_
  rintro e w1 ⟨rfl, hb1⟩
  have hx1 := hbx.mono hb1
  obtain ⟨d0, d1⟩ := K.out w1 hx1
  go_wp2_with fail
  refine (ref_Fair p fa fn fcap fl 8 w1 (hf.mono hx1.below) hp (by omega)).mono ?_
  rintro e w2 ⟨rfl, hb2⟩
  have hx2 := hx1.mono hb2
  clear d0 d1 hb1 hb2 hbx hx1
  obtain ⟨d0, d1⟩ := K.out w2 hx2
  cases hfair : fairB p fl 8 with
  | false =>
    go_wp2
    go_ret
    exact ⟨rfl, hx2.below⟩
  | true =>
    obtain ⟨hlen, hcan, hpr, hp31⟩ := fairB_true hfair
    clear hfair
    go_wp2_with fail
    refine (ref15_IsMonic (p : Int) fa fn fcap fl w2 (hf.mono hx2.below)).mono ?_
    rintro e w3 ⟨rfl, hb3⟩
    have hx3 := hx2.mono hb3
    clear d0 d1 hx2 hb3
    obtain ⟨d0, d1⟩ := K.out w3 hx3
    cases hmon : monB fl with
    | false =>
      go_wp2
      go_ret
      exact ⟨rfl, hx3.below⟩
    | true =>
    by_cases h2 : fn < 2
    · have h2' : (fn : Int) < 2 := by omega
      clear hmon
      go_wp2
      go_ret
      exact ⟨rfl, hx3.below⟩
    have h2' : ¬ (fn : Int) < 2 := by omega
    have hpt := proveE_tried hpr hp31 hcan hmon (by omega)
    obtain ⟨dd, hdd⟩ : ∃ d, d = (fn - 1) / 2 := ⟨_, rfl⟩
    have k1 : ((fn : Int) - 1) / 2 = (dd : Int) := by omega
    have k2 : ((fn : Int) - 1).tdiv 2 = (dd : Int) := by rw [Int.tdiv_eq_ediv_of_nonneg (by omega)]; exact k1
    have k3 : IntKind.i64.wrap (dd : Int) = (dd : Int) := by rw [IntKind.wrap_i64]; omega
    have HDD := Alg.hid hdd
    have HPT := Alg.hid hpt
    clear hdd hpt hmon
    go_wp2_with fail
    refine (ref15_Power p dd 5000 w3 hpr.1 hp (by omega) (by omega) (by omega)).mono ?_
    rintro e w4 ⟨⟨R, rfl, hR⟩, rfl⟩
    by_cases hR5 : R > 5000
    · have hR5' : (R : Int) > 5000 := by omega
      go_wp2
      go_ret
      exact ⟨rfl, hx3.below⟩
    have hR5' : ¬ (R : Int) > 5000 := by omega
    have HPW : Hid (p ^ ((fn - 1) / 2) ≤ 5000) := by
      show _ ≤ _
      rw [← HDD.out]
      rcases Nat.lt_or_ge 5000 (p ^ dd) with h | h
      · have := hR.2.2 h; omega
      · exact h
    clear hR k1 k2 k3
    go_wp2_with fail
    refine (deg_Prove p fa fn fcap fl _ ((HFC.out p hp).mono hx3.below) (hf.mono hx3.below) hpr hp hcan (by omega)).mono ?_
    intro e w5 hR
    obtain ⟨P1, l1, L1, a1, n1, c1, va, vn, vcap, rfl, _, _, hb5⟩ := hR.err
    clear hR
    have hx5 := hx3.mono hb5
    have hx6 := hx5.alloc_any (.cells #[.int .u32 (P1 : Int), .slice a1 n1 c1, .slice va vn vcap] 42)
    clear d0 d1 hx3 hb5
    obtain ⟨d0, d1⟩ := K.out _ hx6
    clear hx5
    generalize hE : proveE p fl = err
    rw [hE] at HPT
    clear hE
    go_wp2_with fail
    generalize hW6 : w5.alloc (.cells #[.int .u32 (P1 : Int), .slice a1 n1 c1, .slice va vn vcap] 42) = w6 at hx6 d0 d1 ⊢
    clear hW6 d0 d1
    refine (ref15_Tried p fa fn fcap fl w6 (hf.mono hx6.below) hpr hp hcan (by omega) (by omega) HPW.out).mono ?_
    rintro e w7 ⟨⟨b, rfl, hb⟩, hb7⟩
    have hx7 := hx6.mono hb7
    rcases HPT.out with ⟨rfl, ht⟩ | ⟨rfl, ht⟩
    · obtain rfl : b = true := hb.2 ht
      clear hb HPT
      go_wp2
      go_ret
      exact ⟨rfl, hx7.below⟩
    · obtain rfl : b = false := by
        cases b with
        | false => rfl
        | true => exact absurd (hb.1 rfl) ht
      clear hb HPT
      go_wp2
      go_ret
      exact ⟨rfl, hx7.below⟩
end Go.Proofs.YtcbhoedifgghhaaDoor
end
section
open Alg
namespace Alg
open Poly
section
variable {p : Nat} [NeZero p]
theorem xpx_len (hp : IsPr p) {d : Nat} (hd : 0 < d) : (xpx p d).len = p ^ d + 1 := by
  haveI := Fp.isFd hp
  have h2 : 2 ≤ p := hp.1
  have h3 : p ^ 1 ≤ p ^ d := Nat.pow_le_pow_right (by omega) hd
  rw [Nat.pow_one] at h3
  unfold xpx
  rw [pw_X, Nat.one_mul]
  refine len_eq ((bd_X _).add ((bd_X 1).mono (by omega)).neg) (Or.inr ?_)
  rw [Nat.add_sub_cancel, c_add, c_neg, c_X, c_X, if_pos rfl, if_neg (by omega), CR.neg_zero, CR.add_zero]
  exact IsFd.one_ne
theorem xpx_sqf (hp : IsPr p) {d : Nat} (hd : 0 < d) : SqF (xpx p d) := by
  haveI := Fp.isFd hp
  have h0 : xpx p d ≠ 0 := fun e => by have := xpx_len hp hd; rw [e, len_zero] at this; omega
  refine sqf_of hp h0 ⟨0, -1, ?_⟩
  have hD : D (xpx p d) = -1 := by
    unfold xpx
    rw [pw_X, Nat.one_mul, D_add, D_neg]
    have e1 : D (X (p ^ d) : Poly (Fp p)) = 0 := by
      have h := D_CX (1 : Fp p) (p ^ d)
      rw [C_one, CR.one_mul, CR.mul_one, Fp.nat_eq] at h
      rw [h]
      have : Fp.of (p := p) (p ^ d) = 0 := by
        obtain ⟨k, rfl⟩ : ∃ k, d = k + 1 := ⟨d - 1, by omega⟩
        apply Fp.ext
        show p ^ (k + 1) % p = 0 % p
        rw [Nat.pow_succ, Nat.mul_mod_left, Nat.zero_mod]
      rw [this, C_zero, CR.zero_mul]
    have e2 : D (X 1 : Poly (Fp p)) = 1 := by
      have h := D_CX (1 : Fp p) 1
      rw [C_one, CR.one_mul, CR.mul_one, CR.nat_one] at h
      rw [h, C_one, CR.one_mul]; exact X_zero
    rw [e1, e2, CR.zero_add]
  rw [hD, CR.zero_mul, CR.zero_add, CR.neg_mul, CR.mul_neg, CR.neg_neg, CR.one_mul]
/-- the degrees of distinct irreducible divisors, all that there are, make the degree -/
theorem irr_sum (hp : IsPr p) : ∀ (L : List (Poly (Fp p))) (f : Poly (Fp p)), SqF f → L.Nodup → (∀ g, g ∈ L → Irr g ∧ g.Monic ∧ Dv g f) → (∀ g, Irr g → g.Monic → Dv g f → g ∈ L) → f.len = 1 + (L.map fun g => g.len - 1).sum
  | [], f, hs, _, _, hall => by
    haveI := Fp.isFd hp
    have hl := len_pos hs.1
    rcases Nat.lt_or_ge 1 f.len with h | h
    · obtain ⟨g, hg, hgd⟩ := irr_ex f.len f (Nat.le_refl _) h
      obtain ⟨c, hc, hm⟩ := monic_of g hg.ne
      have h1 := hall (C c * g) ⟨by rw [len_C_mul hc]; exact hg.1, fun e he => by
        rcases hg.2 e (he.trans (dv_C_mul hc g)) with h2 | h2
        · exact Or.inl h2
        · exact Or.inr ((dv_C_mul hc g).trans h2)⟩ hm ((dv_C_mul hc g).trans hgd)
      cases h1
    · simp; omega
  | g :: L, f, hs, hn, hL, hall => by
    haveI := Fp.isFd hp
    obtain ⟨hg, hgm, q, hq⟩ := hL g (List.mem_cons_self ..)
    have hn' := List.nodup_cons.1 hn
    have q0 : q ≠ 0 := fun e => hs.1 (by rw [hq, e, CR.mul_zero])
    have hqf : Dv q f := ⟨g, by rw [hq, CR.mul_comm]⟩
    have hsq := hs.of_dv hqf
    have key : ∀ h, Irr h → h.Monic → Dv h g → h = g := fun h hh hm hd => by
      refine dv_antisymm (Or.inr hm) (Or.inr hgm) hd ?_
      rcases hg.2 h hd with h1 | h1
      · have := hh.1; omega
      · exact h1
    have ih := irr_sum hp L q hsq hn'.2 (fun h hh => by
      obtain ⟨h1, h2, h3⟩ := hL h (List.mem_cons_of_mem _ hh)
      refine ⟨h1, h2, ?_⟩
      rw [hq] at h3
      rcases h1.dv_mul h3 with h4 | h4
      · exact absurd ((key h h1 h2 h4) ▸ hh) hn'.1
      · exact h4) (fun h h1 h2 h3 => by
      rcases List.mem_cons.1 (hall h h1 h2 (h3.trans hqf)) with h4 | h4
      · rw [h4] at h3
        obtain ⟨y, hy⟩ := h3
        exact absurd ⟨y, by rw [hq, hy]; ac_rfl⟩ (hs.2 g hg)
      · exact h4)
    have hl := len_mul hg.ne q0
    rw [← hq] at hl
    have := hg.1
    rw [List.map_cons, List.sum_cons]
    omega
/-- the monic irreducible polynomials of a degree -/
noncomputable def irrL (p : Nat) [NeZero p] (k : Nat) : List (Poly (Fp p)) := ((List.range (p ^ k)).filter fun i => decide (proveE p (digL p k i) = 0)).map fun i => pol p (digL p k i)
/-- how many of the first i of a degree have a paper -/
noncomputable def cntL (p k i : Nat) : Nat := ((List.range i).filter fun j => decide (proveE p (digL p k j) = 0)).length
theorem digL_mon (p d i : Nat) : monB (digL p d i) = true := by
  rw [monB_true, digL_len, Nat.add_sub_cancel, digL_nth, if_neg (by omega), if_pos rfl]
  exact ⟨by omega, rfl⟩
theorem digL_irr (hp : IsPr p) (hp2 : p < 2147483648) {k : Nat} (hk : 0 < k) (i : Nat) : proveE p (digL p k i) = 0 ↔ Irr (pol p (digL p k i)) := by
  have cd := digL_canon hp k i
  have hl := digL_len p k i
  have h := proveE_tried hp hp2 cd (digL_mon p k i) (by omega)
  rw [tried_iff hp cd (by omega)]
  constructor
  · intro e
    rcases h with h | h
    · exact h.2
    · rw [h.1] at e; cases e
  · intro ht
    rcases h with h | h
    · exact h.1
    · exact absurd ht h.2
theorem digL_inj (hp : IsPr p) {k i j : Nat} (hi : i < p ^ k) (hj : j < p ^ k) (h : pol p (digL p k i) = pol p (digL p k j)) : i = j := by
  have e := canon_ext (digL_canon hp k i) (digL_canon hp k j) h
  refine digits_inj p (by have := hp.1; omega) k i j hi hj fun m hm => ?_
  have h1 := digL_nth p k i m
  have h2 := digL_nth p k j m
  rw [if_pos hm] at h1 h2
  rw [← h1, ← h2, e]
theorem mem_irrL (hp : IsPr p) (hp2 : p < 2147483648) {k : Nat} (hk : 0 < k) (g : Poly (Fp p)) : g ∈ irrL p k ↔ Irr g ∧ g.Monic ∧ g.len = k + 1 := by
  unfold irrL
  rw [List.mem_map]
  constructor
  · rintro ⟨i, hi, rfl⟩
    rw [List.mem_filter] at hi
    have cd := digL_canon hp k i
    refine ⟨(digL_irr hp hp2 hk i).1 (of_decide_eq_true hi.2), (monL_iff hp cd).1 (monB_true.1 (digL_mon p k i)), by rw [pol_len cd, digL_len]⟩
  · rintro ⟨h1, h2, h3⟩
    obtain ⟨i, hi, rfl⟩ := dig_of hp h2 h3
    exact ⟨i, List.mem_filter.2 ⟨List.mem_range.2 hi, decide_eq_true ((digL_irr hp hp2 hk i).2 h1)⟩, rfl⟩
theorem irrL_nodup (hp : IsPr p) (k : Nat) : (irrL p k).Nodup := by
  unfold irrL
  refine nodup_map _ _ (List.nodup_range.filter _) fun x y hx hy h => ?_
  rw [List.mem_filter, List.mem_range] at hx hy
  exact digL_inj hp hx.1 hy.1 h
theorem irrL_sum (hp : IsPr p) (hp2 : p < 2147483648) {k : Nat} (hk : 0 < k) : ((irrL p k).map fun g => g.len - 1).sum = k * cntL p k (p ^ k) := by
  have h : ∀ (l : List (Poly (Fp p))), (∀ g, g ∈ l → g.len = k + 1) → (l.map fun g => g.len - 1).sum = k * l.length
    | [], _ => by simp
    | g :: l, h => by
      have ih : ∀ (l : List (Poly (Fp p))), (∀ g, g ∈ l → g.len = k + 1) → (l.map fun g => g.len - 1).sum = k * l.length := by
        intro l
        induction l with
        | nil => intro _; simp
        | cons g l ih => intro h; rw [List.map_cons, List.sum_cons, ih (fun x hx => h x (List.mem_cons_of_mem _ hx)), h g (List.mem_cons_self ..), List.length_cons, Nat.mul_succ]; omega
      exact ih _ h
  rw [h _ fun g hg => ((mem_irrL hp hp2 hk g).1 hg).2.2]
  unfold irrL cntL
  rw [List.length_map]
/-- those whose degree is at most k, and divides d -/
noncomputable def allL (p : Nat) [NeZero p] (d : Nat) : Nat → List (Poly (Fp p))
  | 0 => []
  | k + 1 => allL p d k ++ (if d % (k + 1) = 0 then irrL p (k + 1) else [])
/-- as the law sums -/
noncomputable def sumL (p d : Nat) : Nat → Nat
  | 0 => 0
  | k + 1 => sumL p d k + (if d % (k + 1) = 0 then (k + 1) * cntL p (k + 1) (p ^ (k + 1)) else 0)
theorem mem_allL (hp : IsPr p) (hp2 : p < 2147483648) (d : Nat) (g : Poly (Fp p)) : ∀ k, g ∈ allL p d k ↔ Irr g ∧ g.Monic ∧ g.len - 1 ≤ k ∧ d % (g.len - 1) = 0
  | 0 => by
    constructor
    · intro h; cases h
    · rintro ⟨h1, _, h2, _⟩; have := h1.1; omega
  | k + 1 => by
    have ih := mem_allL hp hp2 d g k
    unfold allL
    rw [List.mem_append, ih]
    constructor
    · rintro (⟨h1, h2, h3, h4⟩ | h)
      · exact ⟨h1, h2, by omega, h4⟩
      · split at h
        · rename_i hd
          obtain ⟨h1, h2, h3⟩ := (mem_irrL hp hp2 (by omega) g).1 h
          refine ⟨h1, h2, by omega, ?_⟩
          rw [h3, Nat.add_sub_cancel]; exact hd
        · cases h
    · rintro ⟨h1, h2, h3, h4⟩
      have h5 := h1.1
      by_cases e : g.len - 1 ≤ k
      · exact Or.inl ⟨h1, h2, e, h4⟩
      · right
        have e2 : g.len - 1 = k + 1 := by omega
        rw [e2] at h4
        rw [if_pos h4]
        exact (mem_irrL hp hp2 (by omega) g).2 ⟨h1, h2, by omega⟩
theorem allL_nodup (hp : IsPr p) (hp2 : p < 2147483648) (d : Nat) : ∀ k, (allL p d k).Nodup
  | 0 => List.nodup_nil
  | k + 1 => by
    unfold allL
    refine List.nodup_append.2 ⟨allL_nodup hp hp2 d k, ?_, fun a ha b hb e => ?_⟩
    · split
      · exact irrL_nodup hp _
      · exact List.nodup_nil
    · subst e
      have h1 := ((mem_allL hp hp2 d a k).1 ha).2.2.1
      split at hb
      · have := ((mem_irrL hp hp2 (by omega) a).1 hb).2.2; omega
      · cases hb
theorem allL_sum (hp : IsPr p) (hp2 : p < 2147483648) (d : Nat) : ∀ k, ((allL p d k).map fun g => g.len - 1).sum = sumL p d k
  | 0 => rfl
  | k + 1 => by
    unfold allL sumL
    rw [List.map_append, List.sum_append, allL_sum hp hp2 d k]
    split
    · rw [irrL_sum hp hp2 (by omega)]
    · simp
/-- the degrees of all whose degree divides d make p^d -/
theorem gauss (hp : IsPr p) (hp2 : p < 2147483648) {d : Nat} (hd : 0 < d) : sumL p d d = p ^ d := by
  have h := irr_sum hp (allL p d d) (xpx p d) (xpx_sqf hp hd) (allL_nodup hp hp2 d d) (fun g hg => by
    obtain ⟨h1, h2, h3, h4⟩ := (mem_allL hp hp2 d g d).1 hg
    have h5 := h1.1
    exact ⟨h1, h2, irr_up hp h1 (m := g.len - 1) (by omega) (Nat.dvd_of_mod_eq_zero h4)⟩) (fun g h1 h2 h3 => by
    have h5 := h1.1
    have h4 := irr_dvd hp h1 (m := g.len - 1) (by omega) h3
    exact (mem_allL hp hp2 d g d).2 ⟨h1, h2, Nat.le_of_dvd hd h4, Nat.mod_eq_zero_of_dvd h4⟩)
  rw [xpx_len hp hd, allL_sum hp hp2] at h
  omega
end
end Alg
end
section
open Alg Go Go.RowKit
namespace Alg
theorem cntL_succ (p k i : Nat) : cntL p k (i + 1) = cntL p k i + (if proveE p (digL p k i) = 0 then 1 else 0) := by
  unfold cntL
  rw [List.range_succ, List.filter_append, List.length_append]
  by_cases h : proveE p (digL p k i) = 0
  · rw [if_pos h]; simp [h]
  · rw [if_neg h]; simp [h]
theorem cntL_le (p k i : Nat) : cntL p k i ≤ i := by
  unfold cntL
  have := List.length_filter_le (fun j => decide (proveE p (digL p k j) = 0)) (List.range i)
  rwa [List.length_range] at this
theorem sumL_mono (p d : Nat) {k k' : Nat} (h : k ≤ k') : sumL p d k ≤ sumL p d k' := by
  induction h with
  | refl => exact Nat.le_refl _
  | step _ ih =>
    refine Nat.le_trans ih ?_
    show _ ≤ sumL p d _ + _
    omega
theorem sumL_at (p d : Nat) {k : Nat} (hk : 1 ≤ k) (h : d % k = 0) : sumL p d k = sumL p d (k - 1) + k * cntL p k (p ^ k) := by
  obtain ⟨j, rfl⟩ : ∃ j, k = j + 1 := ⟨k - 1, by omega⟩
  show sumL p d j + (if d % (j + 1) = 0 then _ else _) = _
  rw [if_pos h]; rfl
theorem sumL_not (p d : Nat) {k : Nat} (hk : 1 ≤ k) (h : ¬ d % k = 0) : sumL p d k = sumL p d (k - 1) := by
  obtain ⟨j, rfl⟩ : ∃ j, k = j + 1 := ⟨k - 1, by omega⟩
  show sumL p d j + (if d % (j + 1) = 0 then _ else _) = _
  rw [if_neg h]; rfl
end Alg
namespace Go.Proofs.YtcbhoedifgghhaaDoor
open Go.RowKit
set_option maxRecDepth 100000 in
set_option maxHeartbeats 1000000 in
theorem counts15_walk (p n : Nat) (w : World) (hp : p < 256) (hn : n < 256) (hFC : ∀ q, q < 4294967296 → FieldC w q) :
    Calls Tryd.prog 8 #[.int .u8 (p : Int), .int .u8 (n : Int)] w fun e w' => e = .returned (.bool true) ∧ Below w.heap.size w w' := by
  have HFC := Alg.hid hFC
  clear hFC
  obtain ⟨m, hm⟩ : ∃ m, m = n % 6 := ⟨_, rfl⟩
  obtain ⟨d, hd⟩ : ∃ d, d = m + 1 := ⟨_, rfl⟩
  have k1 : (n : Int) % 6 = (m : Int) := by omega
  have k2 : (n : Int).tmod 6 = (m : Int) := by rw [Int.tmod_eq_emod_of_nonneg (by omega)]; exact k1
  have k3 : (m : Int) + 1 = (d : Int) := by omega
  have k4 : IntKind.i64.wrap (n : Int) = (n : Int) := by rw [IntKind.wrap_i64]; omega
  have k5 : IntKind.i64.wrap (d : Int) = (d : Int) := by rw [IntKind.wrap_i64]; omega
  have k6 : IntKind.u32.wrap (p : Int) = (p : Int) := IntWalk.u32_in _ (by omega)
  have hd1 : 1 ≤ d := by omega
  have hd6 : d ≤ 6 := by omega
  clear hm hd
  go_enter Tryd.func8, Tryd.ntmps8
  go_wp2_with fail
  refine (awake15 w (HFC.out 2 (by decide))).mono ?_
  rintro e w1 ⟨rfl, hb1⟩
  go_wp2_with fail
  refine (ref_Field p w1 (by omega)).mono ?_
  rintro e w1' ⟨rfl, he⟩
  subst he
  by_cases hpr : IsPr p
  rotate_left
  · rw [errP_no (fun h => hpr h.1)]
    go_wp2
    go_ret
    exact ⟨rfl, hb1⟩
  have hp31 : p < 2147483648 := by omega
  haveI hne : NeZero p := ⟨by have := hpr.1; omega⟩
  have hp1 : 1 < p := hpr.1
  rw [errP_yes hpr hp31]
  go_wp2_with fail
  refine (ref15_Power p d 300 _ hp1 (by omega) (by omega) (by omega) (by omega)).mono ?_
  rintro e w2 ⟨⟨R, rfl, hR⟩, hw⟩
  subst hw
  by_cases hR3 : R > 300
  · have hR3' : (R : Int) > 300 := by omega
    go_wp2
    go_ret
    exact ⟨rfl, hb1⟩
  have hR3' : ¬ (R : Int) > 300 := by omega
  have hpd : p ^ d ≤ 300 := by
    rcases Nat.lt_or_ge 300 (p ^ d) with h | h
    · have := hR.2.2 h; omega
    · exact h
  have HPD := Alg.hid hpd
  have HG := Alg.hid (gauss hpr hp31 (d := d) (by omega))
  have HPK : Hid (∀ k, k ≤ d → p ^ k ≤ 300) := fun k hk => Nat.le_trans (pow_ge hp1 hk) hpd
  have HB1 := Alg.hid hb1
  clear hR hpd hb1 k1 k2 k3 k4 k5
  go_wp2
  go_loopw [7, 8] (fun s v wr => ∃ S K : Nat, s = .int .i64 S ∧ v = .int .i64 K ∧ 1 ≤ K ∧ K ≤ d + 1 ∧ Hid (S = sumL p d (K - 1)) ∧ S ≤ 300 ∧ Hid (Below w.heap.size w wr)) (fun _ v _ => d + 1 - (intOf v).toNat)
  case atStart => exact ⟨0, 1, rfl, rfl, Nat.le_refl _, by omega, rfl, by omega, HB1⟩
  case round =>
    clear HB1
    obtain ⟨S, K, rfl, rfl, hK1, hKd, hS, hS3, hB⟩ := hrel
    by_cases hKn : K ≤ d
    · have hKn' : (K : Int) ≤ (d : Int) := by omega
      have hKz : ¬ (K : Int) = 0 := by omega
      have hKz' : ((K : Int) == 0) = false := by simp; omega
      by_cases hdv : d % K = 0
      · have q1 : (d : Int) % (K : Int) = 0 := by
          have : (d : Int) % (K : Int) = ((d % K : Nat) : Int) := by simp
          rw [this, hdv]; rfl
        have q2 : (d : Int).tmod (K : Int) = 0 := by rw [Int.tmod_eq_emod_of_nonneg (by omega)]; exact q1
        have HK := Alg.hid (HPK.out K hKn)
        have HSA := Alg.hid (sumL_at p d hK1 hdv)
        have HSB : Hid (sumL p d K ≤ 300) := by
          show _ ≤ _
          have h1 := sumL_mono p d hKn
          have h2 := HG.out
          have h3 := HPD.out
          omega
        clear hdv
        go_wp2
        go_loopw [7, 9] (fun s v wr => ∃ S' I : Nat, s = .int .i64 S' ∧ v = .int .i64 I ∧ I ≤ p ^ K ∧ Hid (S' = S + K * cntL p K I) ∧ S' ≤ 300 + 6 * I ∧ Hid (Below w.heap.size w wr)) (fun _ v _ => 300 - (intOf v).toNat)
        case atStart => exact ⟨S, 0, rfl, rfl, Nat.zero_le _, (by show _ = _; have : cntL p K 0 = 0 := rfl; rw [this]; simp), by omega, hB⟩
        case round =>
          clear hB
          obtain ⟨S', I, rfl, rfl, hI, hS', hS3', hB⟩ := hrel
          have hKK := HK.out
          go_wp2_with fail
          refine (ref15_Power p K 300 wr hp1 (by omega) (by omega) (by omega) (by omega)).mono ?_
          rintro e w2 ⟨⟨R2, rfl, hR2⟩, hw⟩
          subst hw
          have HR2 : Hid (R2 = p ^ K) := hR2.2.1 HK.out
          have hR2b : R2 ≤ 300 := by rw [HR2.out]; exact HK.out
          clear hR2
          by_cases hIR : I < R2
          · have hIR' : (I : Int) < (R2 : Int) := by omega
            go_wp2_with fail
            refine (ref15_Monic p K I _ hp1 (by omega) (by omega) (by omega)).mono ?_
            rintro e w3 ⟨ma, mn, mc, rfl, hsM, hb3, _⟩
            have hB3 := bl hB.out hb3 hB.out.size
            have lM := hsM.len
            rw [digL_len] at lM
            clear hb3
            go_wp2_with fail
            refine (deg_Prove p ma mn mc (digL p K I) w3 ((HFC.out p (by omega)).mono hB3) hsM hpr (by omega) (digL_canon hpr K I) (by omega)).mono ?_
            intro e w4 hR
            obtain ⟨P1, l1, L1, a1, n1, c1, va, vn, vcap, rfl, _, _, hb4⟩ := hR.err
            clear hR
            have hB4 := bl hB3 hb4 hB3.size
            have hB5 := Alg.hid (hB4.alloc hB4.size (.cells #[.int .u32 (P1 : Int), .slice a1 n1 c1, .slice va vn vcap] 42))
            have hcs := cntL_succ p K I
            clear hB hB3 hb4 hB4 hsM
            by_cases hE : proveE p (digL p K I) = 0
            · rw [hE]
              rw [if_pos hE] at hcs
              obtain ⟨S2, hS2⟩ : ∃ s, s = S' + K := ⟨_, rfl⟩
              have q3 : (S' : Int) + (K : Int) = (S2 : Int) := by omega
              have q4 : IntKind.i64.wrap (S2 : Int) = (S2 : Int) := by rw [IntKind.wrap_i64]; omega
              have HS2 : Hid (S2 = S + K * cntL p K (I + 1)) := by show _ = _; rw [hS2, hS'.out, hcs, Nat.mul_add, Nat.mul_one]; omega
              clear hcs hE hS2 hS'
              go_wp2
              go_roundw
              case rel => exact ⟨S2, I + 1, rfl, by go_num, by rw [← HR2.out]; omega, HS2, by omega, hB5⟩
              case measure => simp [intOf]; omega
            · have hE' : ((proveE p (digL p K I)) == 0) = false := by simpa using hE
              rw [if_neg hE] at hcs
              have HS2 : Hid (S' = S + K * cntL p K (I + 1)) := by show _ = _; rw [hS'.out, hcs]; rfl
              clear hcs hS'
              generalize proveE p (digL p K I) = err at hE hE' ⊢
              go_wp2
              go_roundw
              case rel => exact ⟨S', I + 1, rfl, by go_num, by rw [← HR2.out]; omega, HS2, by omega, hB5⟩
              case measure => simp [intOf]; omega
          · have hIR' : ¬ (I : Int) < (R2 : Int) := by omega
            have hIe : I = p ^ K := by have := HR2.out; omega
            have HS2 : Hid (S' = sumL p d K) := by
              show _ = _
              rw [hS'.out, HSA.out, hS.out, hIe]
            have hb := HSB.out
            have hb2 := HS2.out
            have hS3b : S' ≤ 300 := by omega
            clear hIe hS' hb hb2 hS
            go_wp2
            go_roundw
            case rel => exact ⟨S', K + 1, rfl, by go_num, by omega, by omega, (by show _ = _; rw [Nat.add_sub_cancel]; exact HS2.out), hS3b, hB⟩
            case measure => simp [intOf]; omega
      · have q1 : ((d : Int) % (K : Int) != 0) = true := by
          have : (d : Int) % (K : Int) = ((d % K : Nat) : Int) := by simp
          rw [this]; simp; omega
        have q2 : (d : Int).tmod (K : Int) = (d : Int) % (K : Int) := Int.tmod_eq_emod_of_nonneg (by omega)
        have HS2 : Hid (S = sumL p d K) := by show _ = _; rw [hS.out, sumL_not p d hK1 hdv]
        have q3 : ¬ (d : Int) % (K : Int) = 0 := by
          have : (d : Int) % (K : Int) = ((d % K : Nat) : Int) := by simp
          rw [this]; omega
        clear hS hdv
        go_wp2
        go_roundw
        case rel => exact ⟨S, K + 1, rfl, by go_num, by omega, by omega, (by show _ = _; rw [Nat.add_sub_cancel]; exact HS2.out), hS3, hB⟩
        case measure => simp [intOf]; omega
    · have hKn' : ¬ (K : Int) ≤ (d : Int) := by omega
      obtain rfl : K = d + 1 := by omega
      have hSe : S = p ^ d := by have h := hS.out; rw [Nat.add_sub_cancel, HG.out] at h; exact h
      have HSE := Alg.hid hSe
      clear hS hSe
      go_wp2_with fail
      refine (ref15_Power p d 300 wr hp1 (by omega) (by omega) (by omega) (by omega)).mono ?_
      rintro e w2 ⟨⟨R2, rfl, hR2⟩, hw⟩
      subst hw
      obtain rfl : R2 = S := by rw [HSE.out]; exact hR2.2.1 HPD.out
      clear hR2
      have hq : ((R2 : Int) == (R2 : Int)) = true := beq_self_eq_true _
      go_wp2
      go_ret
      exact ⟨rfl, hB.out⟩
end Go.Proofs.YtcbhoedifgghhaaDoor
end
