/- Contract of the reference's Parts. -/
import Derived.Test.YtcbhoedifgghhaaDoorG2
import Derived.Test.YtcbhoedifgghhaaDoorL6
open Alg Go Go.RowKit
namespace Go.Proofs.YtcbhoedifgghhaaDoor
open Go.RowKit
theorem Tryd.infoPP : (Tryd.prog.info? 25).map (fun i => (i.zero, i.size, i.bytes)) = some (some (.agg #[.int .u32 0, .slice none 0 0]), 2, 32) := by kernel_rfl
set_option maxRecDepth 100000 in
set_option maxHeartbeats 1500000 in
theorem ref15_Parts (p : Nat) (fa : Option Addr) (fn fcap : Nat) (fl : List Nat) (w : World) (hf : Sl w fa fn fcap fl) (hpr : IsPr p) (hp : p < 4294967296) (cf : Canon p fl) (hfn : fn ≤ 900) :
    Calls Tryd.prog 15 #[.agg #[.int .u32 (p : Int), .slice fa fn fcap]] w (RetPts p fl w) := by
  haveI hne : NeZero p := ⟨by have := hpr.1; omega⟩
  have hp1 : 1 < p := hpr.1
  have hp0 : 0 < p := by omega
  obtain ⟨ip, hip, hi0, hi1, hi2⟩ := info_parts Tryd.infoPP
  have HI := Alg.hid hip
  have HQ0 := Alg.hid hi0
  have HQ1 := Alg.hid hi1
  have HQ2 := Alg.hid hi2
  clear hip hi0 hi1 hi2
  have hbx := boxes1 w #[.int .u32 (p : Int), .slice fa fn fcap] 25
  have lf := hf.len
  go_enter Tryd.func15, Tryd.ntmps15
  go_upto_region 1 with fail
  generalize hW0 : w.alloc (.cells #[.int .u32 (p : Int), .slice fa fn fcap] 25) = W0 at hbx ⊢
  clear hW0
  have K : Hid (∀ W, Boxes w W [#[.int .u32 (p : Int), .slice fa fn fcap]] → W.cell? ⟨w.heap.size, 0, none⟩ = some (.int .u32 (p : Int)) ∧ W.cell? ⟨w.heap.size, 1, none⟩ = some (.slice fa fn fcap)) := fun W h => ⟨h.cell' 0 0 _ _ rfl rfl, h.cell' 0 1 _ _ rfl rfl⟩
  obtain ⟨d0, d1⟩ := K.out W0 hbx
  go_wp2_with fail
  refine (ref15_IsMonic (p : Int) fa fn fcap fl W0 (hf.mono hbx.below)).mono ?_
  rintro e w1 ⟨rfl, hb1⟩
  have hx1 := hbx.mono hb1
  clear d0 d1 hbx hb1
  obtain ⟨d0, d1⟩ := K.out w1 hx1
  cases hm : monB fl with
  | false =>
    go_wp2
    go_ret2
    exact Or.inr ⟨fun h => (by have := h.1; rw [hm] at this; cases this), RetPL.nil hx1.below 1⟩
  | true =>
  go_wp2_with fail
  refine (ref15_Free p fa fn fcap fl w1 (hf.mono hx1.below) hpr hp (by omega) cf).mono ?_
  rintro e w2 ⟨rfl, hb2⟩
  have hx2 := hx1.mono hb2
  clear d0 d1 hx1 hb2
  obtain ⟨d0, d1⟩ := K.out w2 hx2
  by_cases hfr : ¬ (gcdL p fl (dfL p fl)).G.length = 1
  · rw [decide_eq_false hfr]
    go_wp2
    go_ret2
    exact Or.inr ⟨fun h => hfr h.2, RetPL.nil hx2.below 1⟩
  have hfr : (gcdL p fl (dfL p fl)).G.length = 1 := by omega
  rw [decide_eq_true hfr]
  have HOKP : Hid (okParts p fl) := ⟨hm, hfr⟩
  have HALL := Alg.hid (fun i => HOKP.out.all hpr cf i)
  have HSH := Alg.hid (fun i => (HALL.out i).short hpr cf HOKP.out.mon)
  have HGG := Alg.hid (fun i => (HALL.out i).g hpr (i + 1))
  clear hm hfr
  go_upto_region 5 with fail
  have xR0 := Box.new w2 #[.int .u32 (p : Int), .slice fa fn fcap] 25
  have hx3 := hx2.alloc_any (.cells #[.int .u32 (p : Int), .slice fa fn fcap] 25)
  have s2 : w.heap.size + 1 ≤ w2.heap.size := hx2.size
  obtain ⟨bR, hbR⟩ : ∃ b, b = w2.heap.size := ⟨_, rfl⟩
  have s3 : (w2.alloc (.cells #[.int .u32 (p : Int), .slice fa fn fcap] 25)).heap.size = bR + 1 := by rw [World.size_alloc, hbR]
  rw [← hbR] at xR0 s2 ⊢
  generalize hW3 : w2.alloc (.cells #[.int .u32 (p : Int), .slice fa fn fcap] 25) = w3 at xR0 hx3 s3 ⊢
  clear hW3 hbR hx2 d0 d1
  have hok0 : kPoly.ok w3 ((Value.slice none 0 0).ownBlock.toList ++ [bR]) [.int .u32 (p : Int), .slice fa fn fcap] (p, fl) := kPoly_mk (hf.mono hx3.below) (fun r hr => hf.off (by simp [Value.ownBlock] at hr; omega))
  have HOK0 := Alg.hid hok0
  clear hok0
  go_wp2
  go_loopw [4, 6] (fun v d wr => ∃ i : Nat, ∃ vv : Value, ∃ ra rn rc, vv = v ∧ d = .int .i64 ((i + 1 : Nat) : Int) ∧ Hid (Boxes w wr [#[.int .u32 (p : Int), .slice fa fn fcap]]) ∧ Hid (Box wr bR #[.int .u32 (p : Int), .slice ra rn rc]) ∧ Hid (GrK kPoly wr 25 w3.heap.size [bR] vv i (partsL p fl i)) ∧ Hid (kPoly.ok wr (vv.ownBlock.toList ++ [bR]) [.int .u32 (p : Int), .slice ra rn rc] (p, rP p fl i)) ∧ Hid (∀ j, j < i → 1 < (rP p fl j).length) ∧ i ≤ fn ∧ w3.heap.size ≤ wr.heap.size) (fun _ d _ => fl.length + 1 - (intOf d).toNat)
  case atStart => exact ⟨0, .slice none 0 0, fa, fn, fcap, rfl, rfl, hx3, xR0, GrK.nil _ _ _ _ _, HOK0.out, (fun j h => absurd h (by omega)), Nat.zero_le _, Nat.le_refl _⟩
  case round =>
    clear xR0 HOK0 hx3
    obtain ⟨i, vv, ra, rn, rc, rfl, rfl, hx, xR, hg, hok, hmore, hifn, hsz⟩ := hrel
    obtain ⟨hsr, hor⟩ := kPoly_sl hok.out
    have lr := hsr.len
    have ler := hsr.le
    have lcr := hsr.cap
    have o0 := xR.out.cell 0 _ rfl
    have o1 := xR.out.cell 1 _ rfl
    go_wp2_with fail
    refine (ref_Deg (p : Int) ra rn rc wr (by omega)).mono ?_
    rintro e wa ⟨rfl, hba⟩
    have hxa := hx.out.mono hba
    have xRa := xR.out.mono hba
    have hga := hg.out.mono hba
    have hoka := kPoly.mono hok.out hba
    have sza := hba.size
    clear o0 o1 hx xR hg hok hsr hor hba
    by_cases hrn : ¬ 1 < rn
    · have hrn' : ¬ (rn : Int) - 1 > 0 := by omega
      obtain ⟨va, vc, rfl, hsl, _⟩ := hga.sl
      have hdone : (rP p fl i).length ≤ 1 := by omega
      go_wp2
      go_ret2
      exact Or.inl ⟨HOKP.out, i, ⟨hmore.out, hdone⟩, _, _, _, rfl, hsl, hxa.below⟩
    have hrn : 1 < rn := by omega
    have hrn' : (rn : Int) - 1 > 0 := by omega
    have hsh := HSH.out i (by omega)
    have hmore2 : Hid (∀ j, j < i + 1 → 1 < (rP p fl j).length) := fun j hj => by
      by_cases e : j = i
      · subst e; omega
      · exact hmore.out j (by omega)
    have HCR := Alg.hid (HALL.out i).cr
    have HRN : Hid (rP p fl i ≠ []) := (HALL.out i).mr.ne
    have hgi := HGG.out i
    have HCG := Alg.hid hgi.1
    have HGNE : Hid (gP p (rP p fl i) (i + 1) ≠ []) := hgi.2.1.ne
    have HAP := Alg.hid (apL_md hpr HCR.out HRN.out (i + 1)).canon
    have HAPL := (apL_md hpr HCR.out HRN.out (i + 1)).len
    have HGL : (gP p (rP p fl i) (i + 1)).length ≤ (rP p fl i).length := by
      haveI := Fp.isFd hpr
      have h := hgi.2.2.1.len_le (pol_ne HCR.out HRN.out)
      rw [pol_len hgi.1, pol_len HCR.out] at h
      exact h
    clear hgi
    obtain ⟨hsr, hor⟩ := kPoly_sl hoka
    have hsrd := hsr.drew
    have hv := hga.row
    have KR : Hid (∀ W, Below wa.drew.heap.size wa.drew W → W.cell? ⟨bR, 0, none⟩ = some (.int .u32 (p : Int)) ∧ W.cell? ⟨bR, 1, none⟩ = some (.slice ra rn rc)) := fun W h => ⟨(xRa.drew.mono h).cell 0 _ rfl, (xRa.drew.mono h).cell 1 _ rfl⟩
    go_upto_region 8 with fail
    refine wp_region_lay 7 [(true, 0), (true, 1), (true, 2), (false, 3), (false, 4), (true, 5)] [⟨6, 7, #[.int .u32 0, .slice none 0 0], 25⟩] (by kernel_rfl) (by kernel_rfl) (fun x hx o ho ρ W => ?_) (fun v0 hv0 => ?_)
    · simp only [List.mem_cons, List.not_mem_nil, or_false] at hx
      subst hx
      all_goals (obtain rfl := Option.some.inj ho; go_simp)
    simp only [pick, List.getElem?_cons_succ, List.getElem?_cons_zero]
    iterate 3
      (refine heldR_quiet (v := ?_) (by rfl) ?_ ?_
       rotate_left
       · intro W hW; obtain ⟨d0, d1⟩ := KR.out W hW; go_simp; (try with_reducible rfl)
       try simp only [Act.put, List.setIfInBounds_toArray, List.set_cons_zero, List.set_cons_succ])
    refine heldR_loud (fun K' hK => ?_)
    go_simp
    refine (ref15_apart p ra rn rc (rP p fl i) (i + 1) v0 (hsrd.mono hv0) hpr hp HCR.out (by omega) (by omega) (by omega)).mono ?_
    rintro e vA ⟨ua, un, uc, rfl, hsA, hbA, _⟩
    refine hK.out _ _ (hbA) (fun v1 hv1 => ?_)
    clear hK K'
    have rv1 := (hv0.tr hbA).tr hv1
    have hsA1 := hsA.mono hv1
    have lsA := hsA1.len
    try simp only [Act.put, List.setIfInBounds_toArray, List.set_cons_zero, List.set_cons_succ]
    refine heldR_loud (fun K' hK => ?_)
    go_simp
    refine (ref_GcdP p ra rn rc (rP p fl i) ua un uc (apL p (rP p fl i) (i + 1)) v1 (hsrd.mono rv1) hsA1 hpr hp (by omega) (by omega) HCR.out HAP.out).mono ?_
    rintro e vB ⟨a1, n1, c1, a2, n2, c2, a3, n3, c3, rfl, h3, hbB, hpv⟩
    refine hK.out _ _ (hbB) (fun v2 hv2 => ?_)
    clear hK K'
    have rv2 := (rv1.tr hbB).tr hv2
    have hG2 : Sl v2 a1 n1 c1 (gP p (rP p fl i) (i + 1)) := h3.g.mono hv2
    have pv1 := (hpv HGNE.out).1
    have fld := fun W => fld_pb p W a1 a2 a3 n1 n2 n3 c1 c2 c3
    clear hpv h3
    try simp only [Act.put, List.setIfInBounds_toArray, List.set_cons_zero, List.set_cons_succ]
    iterate 1
      (refine heldR_quiet (v := ?_) (by rfl) ?_ ?_
       rotate_left
       · intro W hW; obtain ⟨d0, d1⟩ := KR.out W hW; go_simp; (try with_reducible rfl)
       try simp only [Act.put, List.setIfInBounds_toArray, List.set_cons_zero, List.set_cons_succ])
    refine heldR_nil ?_
    intro bl wz hRz hSz hGz
    obtain ⟨b9, hact, hb9, ho9⟩ := good1 hSz hGz
    rw [hact]
    have rvz := rv2.tr hRz
    have hGz2 := hG2.mono hRz
    have of9 := off_new ho9 hGz2 HCG.out
    have xb9 := box_of_obj ho9
    have g90 := xb9.cell 0 _ rfl
    have g91 := xb9.cell 1 _ rfl
    have z90 := xb9.frozen 0
    have z91 := xb9.frozen 1
    simp only [List.drop_succ_cons, List.drop_zero]
    (try simp only [Act.put, List.setIfInBounds_toArray, List.set_cons_zero, List.set_cons_succ])
    go_wp2
    refine NoPanic.normal ?_
    have hQe : Below wa.drew.heap.size wa.drew ((wz.setCell ⟨b9, 0, none⟩ (.int .u32 (p : Int))).setCell ⟨b9, 1, none⟩ (.slice a1 n1 c1)) := ((rvz.setCell (p := ⟨b9, 0, none⟩) hb9 _).setCell (p := ⟨b9, 1, none⟩) hb9 _)
    have hQf := btrans (bdrew (Below.refl _ wa)) hQe
    have xg : Box ((wz.setCell ⟨b9, 0, none⟩ (.int .u32 (p : Int))).setCell ⟨b9, 1, none⟩ (.slice a1 n1 c1)) b9 #[.int .u32 (p : Int), .slice a1 n1 c1] := xb9.put2 _ _
    have tg : Sl ((wz.setCell ⟨b9, 0, none⟩ (.int .u32 (p : Int))).setCell ⟨b9, 1, none⟩ (.slice a1 n1 c1)) a1 n1 c1 (gP p (rP p fl i) (i + 1)) := ((hGz2.setCell of9 _).setCell of9 _)
    have hRlt : ∀ r ∈ (vv.ownBlock.toList ++ [bR]), r < v1.heap.size := by
      intro r hr
      have s1 := rv1.size
      have s0 : wa.drew.heap.size = wa.heap.size := rfl
      rcases List.mem_append.1 hr with h4 | h4
      · have := (hv r (by simpa using h4)).2
        omega
      · have hl := xRa.lt
        simp only [List.mem_cons, List.not_mem_nil, or_false] at h4
        omega
    have okg := Alg.hid (kPoly_mk (p := p) tg (Offs.fresh pv1 hRlt))
    have hxd := hxa.mono hQf
    have xRd := xRa.mono hQf
    have hgd := hga.mono hQf
    have hokd := kPoly.mono hoka hQf
    have szd := hQf.size
    have hb9' : wa.heap.size ≤ b9 := hb9
    have lg := tg.len
    have ltR := xRa.lt
    generalize hwd : ((wz.setCell ⟨b9, 0, none⟩ (.int .u32 (p : Int))).setCell ⟨b9, 1, none⟩ (.slice a1 n1 c1)) = wd4 at hxd xRd hgd hokd xg tg okg szd ⊢
    clear hwd hQe hQf of9 ho9 hG2 hGz2 rv2 rvz hv2 hbB hRz hSz hGz hact xb9 g90 g91 z90 z91 hbA hsA hsA1 lsA rv1 hv1 hv0 KR hsrd hxa xRa hga hoka hRlt pv1 fld hb9 hsr hor
    have n1p : 0 < n1 := by
      rcases Nat.eq_zero_or_pos n1 with h | h
      · exact absurd (List.length_eq_zero_iff.1 (by omega)) HGNE.out
      · exact h
    obtain ⟨xs, hown, hgrow⟩ := hgd.grow
    have HGR := Alg.hid hgrow
    have HOWN := Alg.hid hown
    have HXD := Alg.hid hxd
    have HXR := Alg.hid xRd
    have HXG := Alg.hid xg
    have HOKD := Alg.hid hokd
    have hvd := hgd.row
    have q0 := xg.cell 0 _ rfl
    have q1 := xg.cell 1 _ rfl
    have t1 : i + 1 ≤ maxLen := by unfold maxLen; omega
    have t2 : (i + 1) * 32 ≤ 140737488355328 := by omega
    have Q2 : Hid (∀ u ∈ [Value.int .u32 (p : Int), .slice a1 n1 c1], u.oneCell' = true) := kPoly.cells okg.out
    have hsz4 : w3.heap.size ≤ wd4.heap.size := by omega
    clear hgrow hown hgd hxd xRd xg hokd
    go_wp2_with (first
      | (at_builtin; refine wpList_append_lies _ rfl _ _ 28 rfl w3.heap.size 25 ip _ 2 32 Tryd.underlying28 HI.out HQ0.out HQ1.out HQ2.out rfl (by decide) _ i xs rfl (HOWN.out.alloc _) ⟨wd4.heap.size, 0, none⟩ 1 1 [.int .u32 (p : Int), .slice a1 n1 c1] rfl rfl news_two Q2.out Nat.one_pos t1 t2 (Nat.le_trans hsz4 (size_le_alloc _ _)) (wd4.heap.size + 1) (World.size_alloc _ _) ?_; intro gg cc w9 hown9 hgrow9 hat9 hlt9; have hG9 := Alg.hid (HGR.out wd4 w9 [.int .u32 (p : Int), .slice a1 n1 c1] _ (.cells #[.int .u32 (p : Int), .slice a1 n1 c1] 25) gg cc (Below.refl _ _) okg.out hown9 hgrow9 hat9); have hxa9 := HXD.out.alloc_any (.cells #[.int .u32 (p : Int), .slice a1 n1 c1] 25); have hx9 := Alg.hid (hxa9.grown hgrow9 (fun q e => by have := (hvd q e).1; simp only [List.length_cons, List.length_nil]; omega)); have xR9 := Alg.hid ((HXR.out.alloc (.cells #[.int .u32 (p : Int), .slice a1 n1 c1] 25)).grown hgrow9 (fun e => by have := (hvd bR e).1; omega)); have xg9 := Alg.hid ((HXG.out.alloc (.cells #[.int .u32 (p : Int), .slice a1 n1 c1] 25)).grown hgrow9 (fun e => by have := (hvd b9 e).2; have := (hv b9 e).2; omega)); have okr9 := Alg.hid (kPoly.follow (m := i + 1) (c := cc) HOKD.out hgrow9 hat9); have okg9 := Alg.hid (kPoly.follow (m := i + 1) (c := cc) okg.out hgrow9 hat9); clear q0 q1; have q0 := xg9.out.cell 0 _ rfl; have q1 := xg9.out.cell 1 _ rfl; have q2 := xR9.out.cell 0 _ rfl; have q3 := xR9.out.cell 1 _ rfl)
      | fail)
    obtain ⟨hsr9, _⟩ := kPoly_sl okr9.out
    obtain ⟨hsg9, _⟩ := kPoly_sl okg9.out
    refine (ref_DivMod p ra rn rc (rP p fl i) a1 n1 c1 (gP p (rP p fl i) (i + 1)) (p : Int) w9 hsr9 hsg9 n1p hp1 hp (by omega) (by omega)).mono ?_
    rintro e w10 ⟨qa, qn, qc, sa, sn, sc, rfl, hq, _, hbD, pq, _⟩
    have sz9 := hgrow9.size
    rw [World.size_alloc] at sz9
    have hx10 := hx9.out.mono hbD
    have xR10 := xR9.out.mono hbD
    have hG10 := hG9.out.mono hbD
    have sz10 := hbD.size
    have hOq : Offs ((Value.slice (some ⟨gg, 0, none⟩) (i + 1) cc).ownBlock.toList ++ [bR]) qa qn := Offs.fresh pq (fun r hr => by
      rcases List.mem_append.1 hr with h4 | h4
      · have : r = gg := by simpa [Value.ownBlock] using h4
        omega
      · simp only [List.mem_cons, List.not_mem_nil, or_false] at h4
        omega)
    have okq := kPoly_mk (p := p) (l := rP p fl (i + 1)) hq hOq
    have okq2 := Alg.hid (kPoly.set (kPoly.set okq (r := bR) (by simp) 0 (.int .u32 (p : Int))) (r := bR) (by simp) 1 (.slice qa qn qc))
    have xR11 := Alg.hid (xR10.put2 (.int .u32 (p : Int)) (.slice qa qn qc))
    have hx11 := Alg.hid ((hx10.setCell (g := bR) (i := 0) (by simp only [List.length_cons, List.length_nil]; omega) (.int .u32 (p : Int))).setCell (g := bR) (i := 1) (by simp only [List.length_cons, List.length_nil]; omega) (.slice qa qn qc))
    have hG11 := (hG10.set (r := bR) (by simp) (by omega) 0 (.int .u32 (p : Int))).set (r := bR) (by simp) (by omega) 1 (.slice qa qn qc)
    rw [← partsL_succ] at hG11
    have HG11 := Alg.hid hG11
    have sz11 : w3.heap.size ≤ ((w10.setCell ⟨bR, 0, none⟩ (.int .u32 (p : Int))).setCell ⟨bR, 1, none⟩ (.slice qa qn qc)).heap.size := by
      have : ((w10.setCell ⟨bR, 0, none⟩ (.int .u32 (p : Int))).setCell ⟨bR, 1, none⟩ (.slice qa qn qc)).heap.size = w10.heap.size := by simp only [World.setCell, Array.size_modify]
      omega
    clear q0 q1 q2 q3
    have q2 := xR10.cell 0 _ rfl
    have q3 := xR10.cell 1 _ rfl
    have q4 := xR10.frozen 0
    have q5 := xR10.frozen 1
    clear hG11 hown9 hgrow9 hat9 hx9 xR9 xg9 hx10 xR10 hG10 hG9 okr9 okg9 okq hq pq hOq hsr9 hsg9 hbD
    have hfin : i + 1 ≤ fn := by omega
    go_wp2
    go_roundw
    case rel => exact ⟨i + 1, _, _, _, _, rfl, by go_num, hx11, xR11, HG11, okq2, hmore2, hfin, sz11⟩
    case measure => simp [intOf]; omega
end Go.Proofs.YtcbhoedifgghhaaDoor
