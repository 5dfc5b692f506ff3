/- PowMod where it refuses; contract of ref09.PowMod. -/
import Derived.Test.YtcbhoedifgghhaaDoorW47
import Derived.Test.YtcbhoedifgghhaaDoorS1
open Alg Go Go.RowKit
namespace Alg
theorem retPE0 {w W : World} {e : Ending} (err : Int) (h : e = .returned (.tuple #[.agg #[.int .u32 0, .slice none 0 0], .int .i64 err])) (hb : Below w.heap.size w W) : RetPE 0 [] err w e W :=
  ⟨none, 0, 0, h, Sl.of_nil _ _ _ (by omega), hb, Or.inl rfl⟩
end Alg
namespace Go.Proofs.YtcbhoedifgghhaaDoor
open Go.RowKit
theorem ppoly_PowMod_neg (p : Nat) (fa : Option Addr) (fn fcap : Nat) (na : Option Addr) (nn ncap : Nat) (ga : Option Addr) (gn gcap : Nat) (w : World) (hnn0 : nn ≠ 0) (hnn : nn ≤ 1000000000) :
    Calls Tryd.prog 106 #[.agg #[.int .u32 (p : Int), .slice fa fn fcap], .agg #[.bool true, .slice na nn ncap], .agg #[.int .u32 (p : Int), .slice ga gn gcap]] w (RetPE 0 [] 1 w) := by
  have hbx := boxes4 w #[.int .u32 (p : Int), .slice fa fn fcap] #[.bool true, .slice na nn ncap] #[.int .u32 (p : Int), .slice ga gn gcap] #[.int .u32 0, .slice none 0 0] 25 80 25 25
  have HN0 := Alg.hid hnn0
  clear hnn0
  go_enter Tryd.func106, Tryd.ntmps106
  go_wp2_with fail
  generalize hW0 : ((((w.alloc (.cells #[.int .u32 (p : Int), .slice fa fn fcap] 25)).alloc (.cells #[.bool true, .slice na nn ncap] 80)).alloc (.cells #[.int .u32 (p : Int), .slice ga gn gcap] 25)).alloc (.cells #[.int .u32 0, .slice none 0 0] 25)) = W0 at hbx ⊢
  clear hW0
  refine (whole_Sign true na nn ncap W0 (by omega)).mono ?_
  rw [if_neg HN0.out, if_pos rfl]
  rintro e w1 ⟨rfl, hb1⟩
  have hx := hbx.mono hb1
  have d6 := hx.cell' 3 0 _ _ rfl rfl
  have d7 := hx.cell' 3 1 _ _ rfl rfl
  have d8 := hx.frozen' 3 0 (by simp)
  have d9 := hx.frozen' 3 1 (by simp)
  go_wp2
  (try simp only [Exit.inBlock, Exit.then])
  refine bodyPost_ret (v := .tuple #[.agg #[.int .u32 0, .slice none 0 0], .int .i64 1]) (by simp [results, Tryd.results106, go_sem, d6, d7]) rfl ?_
  exact retPE0 1 rfl (Alg.Below.set2 hx.below (by omega) _ _)
theorem ppoly_PowMod_zero (p : Nat) (fa : Option Addr) (fn fcap : Nat) (neg : Bool) (na : Option Addr) (nn ncap : Nat) (ga : Option Addr) (gcap : Nat) (w : World) (hneg : neg = true → nn = 0) (hnn : nn ≤ 1000000000) :
    Calls Tryd.prog 106 #[.agg #[.int .u32 (p : Int), .slice fa fn fcap], .agg #[.bool neg, .slice na nn ncap], .agg #[.int .u32 (p : Int), .slice ga 0 gcap]] w (RetPE 0 [] 3 w) := by
  have hbx := boxes4 w #[.int .u32 (p : Int), .slice fa fn fcap] #[.bool neg, .slice na nn ncap] #[.int .u32 (p : Int), .slice ga 0 gcap] #[.int .u32 0, .slice none 0 0] 25 80 25 25
  have hsg : ∃ sg : Int, (if nn = 0 then 0 else if neg then -1 else 1) = sg ∧ ¬ sg < 0 := by
    by_cases h0 : nn = 0
    · exact ⟨0, by rw [if_pos h0], by omega⟩
    · cases neg with
      | true => exact absurd (hneg rfl) h0
      | false => exact ⟨1, by rw [if_neg h0]; rfl, by omega⟩
  obtain ⟨sg, hsg1, hsg2⟩ := hsg
  have HSG := Alg.hid hsg1
  clear hsg1 hneg
  go_enter Tryd.func106, Tryd.ntmps106
  go_wp2_with fail
  generalize hW0 : ((((w.alloc (.cells #[.int .u32 (p : Int), .slice fa fn fcap] 25)).alloc (.cells #[.bool neg, .slice na nn ncap] 80)).alloc (.cells #[.int .u32 (p : Int), .slice ga 0 gcap] 25)).alloc (.cells #[.int .u32 0, .slice none 0 0] 25)) = W0 at hbx ⊢
  clear hW0
  refine (whole_Sign neg na nn ncap W0 (by omega)).mono ?_
  rw [HSG.out]
  rintro e w1 ⟨rfl, hb1⟩
  have hx := hbx.mono hb1
  have d4 := hx.cell' 2 0 _ _ rfl rfl
  have d5 := hx.cell' 2 1 _ _ rfl rfl
  go_wp2_with fail
  refine (ppoly_Deg (p : Int) ga 0 gcap w1 (by omega)).mono ?_
  rintro e w2 ⟨rfl, hb2⟩
  have hx := hx.mono hb2
  clear d4 d5
  have d6 := hx.cell' 3 0 _ _ rfl rfl
  have d7 := hx.cell' 3 1 _ _ rfl rfl
  have d8 := hx.frozen' 3 0 (by simp)
  have d9 := hx.frozen' 3 1 (by simp)
  go_wp2
  (try simp only [Exit.inBlock, Exit.then])
  refine bodyPost_ret (v := .tuple #[.agg #[.int .u32 0, .slice none 0 0], .int .i64 3]) (by simp [results, Tryd.results106, go_sem, d6, d7]) rfl ?_
  exact retPE0 3 rfl (Alg.Below.set2 hx.below (by omega) _ _)
theorem ref_PowMod_neg (p : Nat) (fa : Option Addr) (fn fcap : Nat) (na : Option Addr) (nn ncap : Nat) (ga : Option Addr) (gn gcap : Nat) (w : World) :
    Calls Tryd.prog 108 #[.agg #[.int .u32 (p : Int), .slice fa fn fcap], .agg #[.bool true, .slice na nn ncap], .agg #[.int .u32 (p : Int), .slice ga gn gcap]] w (RetPE 0 [] 1 w) := by
  have hbx := boxes4 w #[.int .u32 (p : Int), .slice fa fn fcap] #[.bool true, .slice na nn ncap] #[.int .u32 (p : Int), .slice ga gn gcap] #[.int .u32 0, .slice none 0 0] 25 80 25 25
  go_enter Tryd.func108, Tryd.ntmps108
  go_upto_region 1 with fail
  generalize hW0 : ((((w.alloc (.cells #[.int .u32 (p : Int), .slice fa fn fcap] 25)).alloc (.cells #[.bool true, .slice na nn ncap] 80)).alloc (.cells #[.int .u32 (p : Int), .slice ga gn gcap] 25)).alloc (.cells #[.int .u32 0, .slice none 0 0] 25)) = W0 at hbx ⊢
  clear hW0
  have hx := hbx
  have d2 := hx.cell' 1 0 _ _ rfl rfl
  have d5 := hx.cell' 2 1 _ _ rfl rfl
  have d6 := hx.cell' 3 0 _ _ rfl rfl
  have d7 := hx.cell' 3 1 _ _ rfl rfl
  have d8 := hx.frozen' 3 0 (by simp)
  have d9 := hx.frozen' 3 1 (by simp)
  go_wp2
  (try simp only [Exit.inBlock, Exit.then])
  refine bodyPost_ret (v := .tuple #[.agg #[.int .u32 0, .slice none 0 0], .int .i64 1]) (by simp [results, Tryd.results108, go_sem, d6, d7]) rfl ?_
  exact retPE0 1 rfl (Alg.Below.set2 hx.below (by omega) _ _)
theorem ref_PowMod_zero (p : Nat) (fa : Option Addr) (fn fcap : Nat) (na : Option Addr) (nn ncap : Nat) (ga : Option Addr) (gcap : Nat) (w : World) :
    Calls Tryd.prog 108 #[.agg #[.int .u32 (p : Int), .slice fa fn fcap], .agg #[.bool false, .slice na nn ncap], .agg #[.int .u32 (p : Int), .slice ga 0 gcap]] w (RetPE 0 [] 3 w) := by
  have hbx := boxes4 w #[.int .u32 (p : Int), .slice fa fn fcap] #[.bool false, .slice na nn ncap] #[.int .u32 (p : Int), .slice ga 0 gcap] #[.int .u32 0, .slice none 0 0] 25 80 25 25
  go_enter Tryd.func108, Tryd.ntmps108
  go_upto_region 1 with fail
  generalize hW0 : ((((w.alloc (.cells #[.int .u32 (p : Int), .slice fa fn fcap] 25)).alloc (.cells #[.bool false, .slice na nn ncap] 80)).alloc (.cells #[.int .u32 (p : Int), .slice ga 0 gcap] 25)).alloc (.cells #[.int .u32 0, .slice none 0 0] 25)) = W0 at hbx ⊢
  clear hW0
  have hx := hbx
  have d2 := hx.cell' 1 0 _ _ rfl rfl
  have d5 := hx.cell' 2 1 _ _ rfl rfl
  have d6 := hx.cell' 3 0 _ _ rfl rfl
  have d7 := hx.cell' 3 1 _ _ rfl rfl
  have d8 := hx.frozen' 3 0 (by simp)
  have d9 := hx.frozen' 3 1 (by simp)
  go_wp2
  (try simp only [Exit.inBlock, Exit.then])
  refine bodyPost_ret (v := .tuple #[.agg #[.int .u32 0, .slice none 0 0], .int .i64 3]) (by simp [results, Tryd.results108, go_sem, d6, d7]) rfl ?_
  exact retPE0 3 rfl (Alg.Below.set2 hx.below (by omega) _ _)
set_option maxRecDepth 100000 in
set_option maxHeartbeats 2000000 in
theorem ref_PowMod (p : Nat) (fa : Option Addr) (fn fcap : Nat) (fl : List Nat) (na : Option Addr) (nn ncap : Nat) (nl : List Nat) (ga : Option Addr) (gn gcap : Nat) (gl : List Nat) (w : World)
    (hf : Sl w fa fn fcap fl) (hN : Sl w na nn ncap nl) (hg : Sl w ga gn gcap gl) (hpr : IsPr p) (hp : p < 4294967296) (cf : Canon p fl) (cg : Canon p gl) (hg0 : 0 < gn)
    (hfn : fn ≤ 1000000000) (hgn : gn ≤ 1000000000) (hnn : nn ≤ 1000000000) :
    Calls Tryd.prog 108 #[.agg #[.int .u32 (p : Int), .slice fa fn fcap], .agg #[.bool false, .slice na nn ncap], .agg #[.int .u32 (p : Int), .slice ga gn gcap]] w (RetPE p (powL p fl gl (valN nl)) 0 w) := by
  haveI hne : NeZero p := ⟨by have := hpr.1; omega⟩
  have hp1 : 1 < p := hpr.1
  have hp0 : 0 < p := by omega
  have hgl : gl ≠ [] := fun e => by have := hg.len; rw [e] at this; simp at this; omega
  have eg := hg.len
  have en := hN.len
  have PC := Alg.hid (fun n => powL_canon hpr cf cg hgl n)
  have PS := Alg.hid (fun N => PI.start hpr cf cg hgl N)
  have HGL := Alg.hid hgl
  have HEG := Alg.hid eg
  have HEN := Alg.hid en
  have HS := Alg.hid hf.len
  clear hgl eg en
  have hgz : ((gn : Int) == 0) = false := by simp; omega
  have hbx := boxes4 w #[.int .u32 (p : Int), .slice fa fn fcap] #[.bool false, .slice na nn ncap] #[.int .u32 (p : Int), .slice ga gn gcap] #[.int .u32 0, .slice none 0 0] 25 80 25 25
  go_enter Tryd.func108, Tryd.ntmps108
  go_upto_region 1 with fail
  generalize hW0 : ((((w.alloc (.cells #[.int .u32 (p : Int), .slice fa fn fcap] 25)).alloc (.cells #[.bool false, .slice na nn ncap] 80)).alloc (.cells #[.int .u32 (p : Int), .slice ga gn gcap] 25)).alloc (.cells #[.int .u32 0, .slice none 0 0] 25)) = W0 at hbx ⊢
  clear hW0
  have K : Hid (∀ W, Boxes w W [#[.int .u32 (p : Int), .slice fa fn fcap], #[.bool false, .slice na nn ncap], #[.int .u32 (p : Int), .slice ga gn gcap], #[.int .u32 0, .slice none 0 0]] → W.cell? ⟨w.heap.size, 0, none⟩ = some (.int .u32 (p : Int)) ∧ W.cell? ⟨w.heap.size, 1, none⟩ = some (.slice fa fn fcap) ∧ W.cell? ⟨w.heap.size + 1, 0, none⟩ = some (.bool false) ∧ W.cell? ⟨w.heap.size + 1, 1, none⟩ = some (.slice na nn ncap) ∧ W.cell? ⟨w.heap.size + 1 + 1, 0, none⟩ = some (.int .u32 (p : Int)) ∧ W.cell? ⟨w.heap.size + 1 + 1, 1, none⟩ = some (.slice ga gn gcap) ∧ W.cell? ⟨w.heap.size + 1 + 1 + 1, 0, none⟩ = some (.int .u32 0) ∧ W.cell? ⟨w.heap.size + 1 + 1 + 1, 1, none⟩ = some (.slice none 0 0) ∧ W.frozen? ⟨w.heap.size + 1 + 1 + 1, 0, none⟩ = false ∧ W.frozen? ⟨w.heap.size + 1 + 1 + 1, 1, none⟩ = false) := fun W h => pow_cells h
  obtain ⟨d0, d1, d2, d3, d4, d5, d6, d7, d8, d9⟩ := K.out W0 hbx
  go_wp2
  have hx2d := hbx.drew
  refine wp_region_lay 6 [(true, 0), (true, 1), (true, 3), (false, 2), (false, 4)] [⟨5, 8, #[.int .u32 0, .slice none 0 0], 25⟩] (by kernel_rfl) (by kernel_rfl) (fun x hx o ho ρ W => ?_) (fun v0 hv0 => ?_)
  · simp only [List.mem_cons, List.not_mem_nil, or_false] at hx
    subst hx
    all_goals (obtain rfl := Option.some.inj ho; go_simp)
  simp only [pick, List.getElem?_cons_succ, List.getElem?_cons_zero]
  iterate 3
    (refine heldR_quiet (v := ?_) (by rfl) ?_ ?_
     rotate_left
     · intro W hW; obtain ⟨d0, d1, d2, d3, d4, d5, d6, d7, d8, d9⟩ := K.out W (hx2d.mono hW); go_simp; (try with_reducible rfl)
     try simp only [Act.put, List.setIfInBounds_toArray, List.set_cons_zero, List.set_cons_succ])
  refine heldR_loud (fun K' hK => ?_)
  go_simp
  refine (ref_One p v0).mono ?_
  rintro e v2 ⟨oa, on, oc, rfl, hsO, hbO, _⟩
  have hxv2 := (hx2d.mono hv0).mono hbO
  refine hK.out _ _ (hbO) (fun v3 hv3 => ?_)
  clear hK K'
  have hsO3 := hsO.mono hv3
  have hxv3 := hxv2.mono hv3
  have lon : on ≤ 1099511627776 := by have := hsO.len; simp at this; omega
  try simp only [Act.put, List.setIfInBounds_toArray, List.set_cons_zero, List.set_cons_succ]
  refine heldR_loud (fun K' hK => ?_)
  go_simp
  refine (ref_mod p oa on oc [1] ga gn gcap gl (p : Int) v3 hsO3 (hg.mono hxv3.below) hg0 hp1 hp lon (by omega)).mono ?_
  rintro e v4 ⟨ua, un, uc, rfl, hsU, hbU, pvU⟩
  have hxv4 := hxv3.mono hbU
  refine hK.out _ _ (hbU) (fun v5 hv5 => ?_)
  clear hK K'
  have hsU5 := hsU.mono hv5
  have hxv5 := hxv4.mono hv5
  try simp only [Act.put, List.setIfInBounds_toArray, List.set_cons_zero, List.set_cons_succ]
  refine heldR_nil ?_
  intro bl wz hRz hSz hGz
  obtain ⟨b8, hact, hb8, ho8⟩ := good1 hSz hGz
  rw [hact]
  have hxz := hxv5.mono hRz
  have hsUz := hsU5.mono hRz
  have hq8 : w.heap.size + 4 ≤ b8 := Nat.le_trans hx2d.size hb8
  have hpi := PS.out (valN nl)
  have q3 := hxv3.size
  simp only [List.length_cons, List.length_nil] at q3
  have cU := (remL_md hpr (canon_one hpr) cg HGL.out).canon
  have oU8 := off_new ho8 hsUz cU
  have oUr : Off ua un (w.heap.size + 1 + 1 + 1) := pvU.off0 (by omega)
  have pUw : Prov w [] ua un := pvU.mono (by omega)
  have xb8 := box_of_obj ho8
  have g0 := xb8.cell 0 _ rfl
  have g1 := xb8.cell 1 _ rfl
  have z0 := xb8.frozen 0
  have z1 := xb8.frozen 1
  have hx5 := hxz.set2 hq8 (.int .u32 (p : Int)) (.slice ua un uc)
  have x85 := xb8.put2 (.int .u32 (p : Int)) (.slice ua un uc)
  have sU5 := hsUz.set2 oU8 (.int .u32 (p : Int)) (.slice ua un uc)
  simp only [List.drop_succ_cons, List.drop_zero]
  (try simp only [Act.put, List.setIfInBounds_toArray, List.set_cons_zero, List.set_cons_succ])
  go_wp2
  refine NoPanic.normal ?_
  generalize hWT : ((wz.setCell ⟨b8, 0, none⟩ (.int .u32 (p : Int))).setCell ⟨b8, 1, none⟩ (.slice ua un uc)) = wt at hx5 x85 sU5 ⊢
  clear hWT g0 g1 z0 z1 xb8 ho8 hxz hsUz hact hGz hSz hRz hsU5 hxv5 hv5 hxv4 hbU hsU hxv3 hsO3 hv3 hsO hxv2 hbO hv0 hx2d hbx d0 d1 d2 d3 d4 d5 d6 d7 d8 d9 pvU q3 lon cU
  obtain ⟨d0, d1, d2, d3, d4, d5, d6, d7, d8, d9⟩ := K.out wt hx5
  go_wp2_with fail
  refine (ref_mod p fa fn fcap fl ga gn gcap gl (p : Int) wt (hf.mono hx5.below) (hg.mono hx5.below) hg0 hp1 hp (by omega) (by omega)).mono ?_
  rintro e w6 ⟨sa, sn, sc, rfl, hsS, hbS, pvS⟩
  have hx6 := hx5.mono hbS
  have h6s := hx6.size
  have h5s := hx5.size
  have l85 := x85.lt
  have z56 := hbS.size
  simp only [List.length_cons, List.length_nil] at h6s h5s
  obtain ⟨b9, hb9⟩ : ∃ b9, b9 = w6.heap.size := ⟨_, rfl⟩
  have hgr : Below w6.heap.size w6 (w6.alloc (.cells #[.int .u32 (p : Int), .slice sa sn sc] 25)) := (Below.refl _ _).alloc (Nat.le_refl _) _
  have hpw : PW w (w6.alloc (.cells #[.int .u32 (p : Int), .slice sa sn sc] 25)) [#[.int .u32 (p : Int), .slice fa fn fcap], #[.bool false, .slice na nn ncap], #[.int .u32 (p : Int), .slice ga gn gcap], #[.int .u32 0, .slice none 0 0]] p b8 b9 [b8, b9, w.heap.size + 1 + 1 + 1] (remL p [1] gl) (remL p fl gl) := by
    have sU6 := sU5.mono hbS
    refine ⟨hx6.mono hgr, hq8, by rw [hb9]; exact h6s, by omega, ?_, ⟨ua, un, uc, (x85.mono hbS).mono hgr, sU6.mono hgr, ?_, pUw⟩, ⟨sa, sn, sc, Box.new' w6 _ _ hb9, hsS.mono hgr, ?_, pvS.mono (by omega)⟩⟩
    · intro r hr
      have h7 : (w6.alloc (.cells #[.int .u32 (p : Int), .slice sa sn sc] 25)).heap.size = w6.heap.size + 1 := World.size_alloc _ _
      simp only [List.mem_cons, List.not_mem_nil, or_false] at hr
      rcases hr with rfl | rfl | rfl <;> omega
    · intro r hr
      simp only [List.mem_cons, List.not_mem_nil, or_false] at hr
      rcases hr with rfl | rfl | rfl
      · exact oU8
      · exact sU6.off (by omega)
      · exact oUr
    · intro r hr
      simp only [List.mem_cons, List.not_mem_nil, or_false] at hr
      rcases hr with rfl | rfl | rfl
      · exact pvS.off0 l85
      · exact hsS.off (by omega)
      · exact pvS.off0 (by omega)
  have HPI := Alg.hid hpi
  clear hpi
  clear d0 d1 d2 d3 d4 d5 d6 d7 d8 d9
  have HB9 := Alg.hid hb9
  go_wp2
  rw [← HB9.out]
  generalize hW7 : (w6.alloc (.cells #[.int .u32 (p : Int), .slice sa sn sc] 25)) = w7 at hpw ⊢
  clear hW7 hgr hx6 hbS hsS h6s h5s l85 z56 hx5 x85 sU5 oU8 oUr pUw pvS hb9 HB9
  have HPW := Alg.hid hpw
  clear hpw
  go_loopw [10] (fun v wr => ∃ (i : Nat) (O S : List Nat), v = .int .i64 i ∧ i ≤ nn ∧ PW w wr [#[.int .u32 (p : Int), .slice fa fn fcap], #[.bool false, .slice na nn ncap], #[.int .u32 (p : Int), .slice ga gn gcap], #[.int .u32 0, .slice none 0 0]] p b8 b9 [b8, b9, w.heap.size + 1 + 1 + 1] O S ∧ PI p fl gl (valN nl) (32 * i) O S) (fun v _ => nn - (intOf v).toNat)
  case atStart => exact ⟨0, _, _, rfl, Nat.zero_le _, HPW.out, HPI.out⟩
  case round =>
    clear HPW HPI
    obtain ⟨i, O, S, rfl, hi, hW, hI⟩ := hrel
    obtain ⟨_, _, _, d3, _, _, d6, d7, d8, d9⟩ := K.out wr hW.bx
    by_cases hin : i < nn
    · rcases hN.rd with h0 | ⟨nb, noff, rfl, hnc⟩
      · omega
      have c1 : wr.cell? ⟨nb, noff + i, none⟩ = some (.int .u32 (nth nl i : Nat)) := (hW.bx.below.cell (p := ⟨nb, noff + i, none⟩) (cell_lt (hnc i hin))).trans (hnc i hin)
      have hclt := hN.lt i
      have s1 : (0 : Int) ≤ (i : Int) := by omega
      have s2 : (i : Int) < (nn : Int) := by omega
      clear hnc
      go_wp2
      clear c1 d3 d6 d7 d8 d9
      go_loopw [11, 12] (fun u v wr => ∃ (k : Nat) (O S : List Nat), u = .int .u32 (nth nl i / 2 ^ k : Nat) ∧ v = .int .i64 k ∧ k ≤ 32 ∧ PW w wr [#[.int .u32 (p : Int), .slice fa fn fcap], #[.bool false, .slice (some ⟨nb, noff, none⟩) nn ncap], #[.int .u32 (p : Int), .slice ga gn gcap], #[.int .u32 0, .slice none 0 0]] p b8 b9 [b8, b9, w.heap.size + 1 + 1 + 1] O S ∧ PI p fl gl (valN nl) (32 * i + k) O S) (fun _ v _ => 32 - (intOf v).toNat)
      case atStart => exact ⟨0, O, S, by rw [Nat.pow_zero, Nat.div_one], rfl, by omega, hW, hI⟩
      case round =>
        clear hW hI
        obtain ⟨k, O, S, rfl, rfl, hk, hW, hI⟩ := hrel
        have hq2 : nth nl i / 2 ^ k < 4294967296 := Nat.lt_of_le_of_lt (Nat.div_le_self _ _) hclt
        have hlb := limb_bit nl hN.lt i k
        have hts := Alg.hid (half_div (nth nl i) k)
        by_cases hk32 : k < 32
        · have hlb := hlb hk32
          have t1 : (0 : Int) ≤ (k : Int) := by omega
          have t2 : (k : Int) < 32 := by omega
          have LO := PC.out (valN nl % 2 ^ (32 * i + k))
          rw [← hI.eo] at LO
          have CO := Alg.hid (nth_lt LO.1)
          have CS := Alg.hid (nth_lt hI.cs)
          have LO := LO.2
          have LS := hI.ls
          have eg' := HEG.out
          generalize hqd : nth nl i / 2 ^ k = qd at *
          have HQD := Alg.hid hqd
          clear hqd
          by_cases hb : qd % 2 = 1
          · have hbt : ((qd : Int) % 2 == 1) = true := by simp; omega
            rw [hlb] at hb
            have HO := Alg.hid (hI.one hpr cf cg HGL.out hb)
            clear hlb hb hts
            obtain ⟨oa, on, oc, xO, sO, _⟩ := hW.one
            obtain ⟨sa, sn, sc, xS, sS, _⟩ := hW.two
            have bW := hW.bx
            have loa := sO.len
            have lsa := sS.len
            have KB : Hid (∀ W, Below wr.heap.size wr W → W.cell? ⟨b8, 0, none⟩ = some (.int .u32 (p : Int)) ∧ W.cell? ⟨b8, 1, none⟩ = some (.slice oa on oc) ∧ W.cell? ⟨b9, 0, none⟩ = some (.int .u32 (p : Int)) ∧ W.cell? ⟨b9, 1, none⟩ = some (.slice sa sn sc) ∧ W.cell? ⟨w.heap.size + 1 + 1, 0, none⟩ = some (.int .u32 (p : Int)) ∧ W.cell? ⟨w.heap.size + 1 + 1, 1, none⟩ = some (.slice ga gn gcap)) := fun W h => ⟨(xO.mono h).cell 0 _ rfl, (xO.mono h).cell 1 _ rfl, (xS.mono h).cell 0 _ rfl, (xS.mono h).cell 1 _ rfl, (bW.mono h).cell' 2 0 _ _ rfl rfl, (bW.mono h).cell' 2 1 _ _ rfl rfl⟩
            have hR0 := bdrew (Below.refl wr.heap.size wr)
            go_wp2
            refine wp_region_noPanic ?_
            refine wp_region_held2 5 [(1, 0), (1, 1), (1, 3), (0, 2), (0, 4), (3, 5)] (fun W => W.cell? ⟨b8, 0, none⟩ = some (.int .u32 (p : Int)) ∧ W.cell? ⟨b8, 1, none⟩ = some (.slice oa on oc) ∧ W.cell? ⟨b9, 0, none⟩ = some (.int .u32 (p : Int)) ∧ W.cell? ⟨b9, 1, none⟩ = some (.slice sa sn sc) ∧ W.cell? ⟨w.heap.size + 1 + 1, 0, none⟩ = some (.int .u32 (p : Int)) ∧ W.cell? ⟨w.heap.size + 1 + 1, 1, none⟩ = some (.slice ga gn gcap)) (fun _ => True) (by kernel_rfl) (by kernel_rfl) (fun _ _ _ _ _ h => h) (fun _ _ => trivial) (KB.out _ hR0) (fun _ => ?_)
            simp only [pick2, List.getElem?_cons_succ, List.getElem?_cons_zero]
            iterate 3
              (refine held2_early (v := ?_) (by rfl) ?_ ?_
               rotate_left
               · intro W hSw; (try dsimp only at hSw); go_simp; (try with_reducible rfl)
               try simp only [Act.put, List.setIfInBounds_toArray, List.set_cons_zero, List.set_cons_succ])
            refine held2_loud (fun K' hK => ?_)
            go_simp
            refine (ref_Mul p oa on oc O sa sn sc S (p : Int) wr.drew (sO.mono hR0) (sS.mono hR0) hp0 hp (by omega) (by omega) CO.out CS.out).mono ?_
            rintro e wA ⟨ua, un, uc, rfl, hsA, hbA, _⟩
            have hRA := btrans hR0 hbA
            have lun := hsA.len
            have lML := mulL_len p O S
            refine hK.out _ _ (KB.out _ hRA) (fun _ => ?_)
            clear hK K'
            try simp only [Act.put, List.setIfInBounds_toArray, List.set_cons_zero, List.set_cons_succ]
            refine held2_loud (fun K' hK => ?_)
            go_simp
            refine (ref_mod p ua un uc (mulL p O S) ga gn gcap gl (p : Int) wA hsA (hg.mono (bW.mono hRA).below) hg0 hp1 hp (by omega) (by omega)).mono ?_
            rintro e wB ⟨ra, rn, rc, rfl, hsB, hbB, pvB⟩
            have hRB := btrans hRA hbB
            have xT := xO.mono hRB
            have g0 := xT.cell 0 _ rfl
            have g1 := xT.cell 1 _ rfl
            have z0 := xT.frozen 0
            have z1 := xT.frozen 1
            refine hK.out _ _ (KB.out _ hRB) (fun _ => ?_)
            clear hK K'
            try simp only [Act.put, List.setIfInBounds_toArray, List.set_cons_zero, List.set_cons_succ]
            refine held2_store (fun K' hK => ?_)
            go_simp
            refine hK.out _ _ trivial (fun _ => ?_)
            clear hK K'
            try simp only [Act.put, List.setIfInBounds_toArray, List.set_cons_zero, List.set_cons_succ]
            refine held2_nil ?_
            refine NoPanic.normal ?_
            have hWB := hW.mono hRB
            have pvA := ((hW.mono hRA).fresh pvB)
            have hWC := hWB.set1 (O' := remL p (mulL p O S) gl) hsB pvA (by simp)
            generalize hWD : ((wB.setCell ⟨b8, 0, none⟩ (.int .u32 (p : Int))).setCell ⟨b8, 1, none⟩ (.slice ra rn rc)) = wD at hWC ⊢
            clear hWD g0 g1 z0 z1 xT hWB KB xO xS sO sS bW hbt hRB hRA hR0 hsA hsB hbA hbB loa lsa
            obtain ⟨oa, on, oc, xO, sO, _⟩ := hWC.one
            obtain ⟨sa, sn, sc, xS, sS, _⟩ := hWC.two
            have bW := hWC.bx
            have loa := sO.len
            have lsa := sS.len
            have KB : Hid (∀ W, Below wD.heap.size wD W → W.cell? ⟨b8, 0, none⟩ = some (.int .u32 (p : Int)) ∧ W.cell? ⟨b8, 1, none⟩ = some (.slice oa on oc) ∧ W.cell? ⟨b9, 0, none⟩ = some (.int .u32 (p : Int)) ∧ W.cell? ⟨b9, 1, none⟩ = some (.slice sa sn sc) ∧ W.cell? ⟨w.heap.size + 1 + 1, 0, none⟩ = some (.int .u32 (p : Int)) ∧ W.cell? ⟨w.heap.size + 1 + 1, 1, none⟩ = some (.slice ga gn gcap)) := fun W h => ⟨(xO.mono h).cell 0 _ rfl, (xO.mono h).cell 1 _ rfl, (xS.mono h).cell 0 _ rfl, (xS.mono h).cell 1 _ rfl, (bW.mono h).cell' 2 0 _ _ rfl rfl, (bW.mono h).cell' 2 1 _ _ rfl rfl⟩
            have hR0 := bdrew (Below.refl wD.heap.size wD)
            go_wp2
            refine wp_region_noPanic ?_
            refine wp_region_held2 5 [(1, 0), (1, 1), (1, 3), (0, 2), (0, 4), (3, 5)] (fun W => W.cell? ⟨b8, 0, none⟩ = some (.int .u32 (p : Int)) ∧ W.cell? ⟨b8, 1, none⟩ = some (.slice oa on oc) ∧ W.cell? ⟨b9, 0, none⟩ = some (.int .u32 (p : Int)) ∧ W.cell? ⟨b9, 1, none⟩ = some (.slice sa sn sc) ∧ W.cell? ⟨w.heap.size + 1 + 1, 0, none⟩ = some (.int .u32 (p : Int)) ∧ W.cell? ⟨w.heap.size + 1 + 1, 1, none⟩ = some (.slice ga gn gcap)) (fun _ => True) (by kernel_rfl) (by kernel_rfl) (fun _ _ _ _ _ h => h) (fun _ _ => trivial) (KB.out _ hR0) (fun _ => ?_)
            simp only [pick2, List.getElem?_cons_succ, List.getElem?_cons_zero]
            iterate 3
              (refine held2_early (v := ?_) (by rfl) ?_ ?_
               rotate_left
               · intro W hSw; (try dsimp only at hSw); go_simp; (try with_reducible rfl)
               try simp only [Act.put, List.setIfInBounds_toArray, List.set_cons_zero, List.set_cons_succ])
            refine held2_loud (fun K' hK => ?_)
            go_simp
            refine (ref_Mul p sa sn sc S sa sn sc S (p : Int) wD.drew (sS.mono hR0) (sS.mono hR0) hp0 hp (by omega) (by omega) CS.out CS.out).mono ?_
            rintro e wA ⟨ua, un, uc, rfl, hsA, hbA, _⟩
            have hRA := btrans hR0 hbA
            have lun := hsA.len
            have lML := mulL_len p S S
            refine hK.out _ _ (KB.out _ hRA) (fun _ => ?_)
            clear hK K'
            try simp only [Act.put, List.setIfInBounds_toArray, List.set_cons_zero, List.set_cons_succ]
            refine held2_loud (fun K' hK => ?_)
            go_simp
            refine (ref_mod p ua un uc (mulL p S S) ga gn gcap gl (p : Int) wA hsA (hg.mono (bW.mono hRA).below) hg0 hp1 hp (by omega) (by omega)).mono ?_
            rintro e wB ⟨ra, rn, rc, rfl, hsB, hbB, pvB⟩
            have hRB := btrans hRA hbB
            have xT := xS.mono hRB
            have g0 := xT.cell 0 _ rfl
            have g1 := xT.cell 1 _ rfl
            have z0 := xT.frozen 0
            have z1 := xT.frozen 1
            refine hK.out _ _ (KB.out _ hRB) (fun _ => ?_)
            clear hK K'
            try simp only [Act.put, List.setIfInBounds_toArray, List.set_cons_zero, List.set_cons_succ]
            refine held2_store (fun K' hK => ?_)
            go_simp
            refine hK.out _ _ trivial (fun _ => ?_)
            clear hK K'
            try simp only [Act.put, List.setIfInBounds_toArray, List.set_cons_zero, List.set_cons_succ]
            refine held2_nil ?_
            refine NoPanic.normal ?_
            have hWB := hWC.mono hRB
            have pvA := ((hWC.mono hRA).fresh pvB)
            have hWE := hWB.set2 (S' := remL p (mulL p S S) gl) hsB pvA (by simp)
            have hIE := hI.sq hpr cf cg HGL.out HO.out
            generalize hWF : ((wB.setCell ⟨b9, 0, none⟩ (.int .u32 (p : Int))).setCell ⟨b9, 1, none⟩ (.slice ra rn rc)) = wF at hWE ⊢
            clear hWF g0 g1 z0 z1 xT hWB KB
            have hqq := Alg.hid (half_div (nth nl i) k)
            go_wp2
            go_roundw
            case rel => exact ⟨k + 1, _, _, by rw [hqq.out, HQD.out]; simp, by go_num, by omega, hWE, hIE⟩
            case measure => simp [intOf]; omega
          · have hbt : ((qd : Int) % 2 == 1) = false := by simp; omega
            rw [hlb] at hb
            have HO := Alg.hid (hI.zero hb)
            clear hlb hb hts
            obtain ⟨oa, on, oc, xO, sO, _⟩ := hW.one
            obtain ⟨sa, sn, sc, xS, sS, _⟩ := hW.two
            have bW := hW.bx
            have loa := sO.len
            have lsa := sS.len
            have KB : Hid (∀ W, Below wr.heap.size wr W → W.cell? ⟨b8, 0, none⟩ = some (.int .u32 (p : Int)) ∧ W.cell? ⟨b8, 1, none⟩ = some (.slice oa on oc) ∧ W.cell? ⟨b9, 0, none⟩ = some (.int .u32 (p : Int)) ∧ W.cell? ⟨b9, 1, none⟩ = some (.slice sa sn sc) ∧ W.cell? ⟨w.heap.size + 1 + 1, 0, none⟩ = some (.int .u32 (p : Int)) ∧ W.cell? ⟨w.heap.size + 1 + 1, 1, none⟩ = some (.slice ga gn gcap)) := fun W h => ⟨(xO.mono h).cell 0 _ rfl, (xO.mono h).cell 1 _ rfl, (xS.mono h).cell 0 _ rfl, (xS.mono h).cell 1 _ rfl, (bW.mono h).cell' 2 0 _ _ rfl rfl, (bW.mono h).cell' 2 1 _ _ rfl rfl⟩
            have hR0 := bdrew (Below.refl wr.heap.size wr)
            go_wp2
            refine wp_region_noPanic ?_
            refine wp_region_held2 5 [(1, 0), (1, 1), (1, 3), (0, 2), (0, 4), (3, 5)] (fun W => W.cell? ⟨b8, 0, none⟩ = some (.int .u32 (p : Int)) ∧ W.cell? ⟨b8, 1, none⟩ = some (.slice oa on oc) ∧ W.cell? ⟨b9, 0, none⟩ = some (.int .u32 (p : Int)) ∧ W.cell? ⟨b9, 1, none⟩ = some (.slice sa sn sc) ∧ W.cell? ⟨w.heap.size + 1 + 1, 0, none⟩ = some (.int .u32 (p : Int)) ∧ W.cell? ⟨w.heap.size + 1 + 1, 1, none⟩ = some (.slice ga gn gcap)) (fun _ => True) (by kernel_rfl) (by kernel_rfl) (fun _ _ _ _ _ h => h) (fun _ _ => trivial) (KB.out _ hR0) (fun _ => ?_)
            simp only [pick2, List.getElem?_cons_succ, List.getElem?_cons_zero]
            iterate 3
              (refine held2_early (v := ?_) (by rfl) ?_ ?_
               rotate_left
               · intro W hSw; (try dsimp only at hSw); go_simp; (try with_reducible rfl)
               try simp only [Act.put, List.setIfInBounds_toArray, List.set_cons_zero, List.set_cons_succ])
            refine held2_loud (fun K' hK => ?_)
            go_simp
            refine (ref_Mul p sa sn sc S sa sn sc S (p : Int) wr.drew (sS.mono hR0) (sS.mono hR0) hp0 hp (by omega) (by omega) CS.out CS.out).mono ?_
            rintro e wA ⟨ua, un, uc, rfl, hsA, hbA, _⟩
            have hRA := btrans hR0 hbA
            have lun := hsA.len
            have lML := mulL_len p S S
            refine hK.out _ _ (KB.out _ hRA) (fun _ => ?_)
            clear hK K'
            try simp only [Act.put, List.setIfInBounds_toArray, List.set_cons_zero, List.set_cons_succ]
            refine held2_loud (fun K' hK => ?_)
            go_simp
            refine (ref_mod p ua un uc (mulL p S S) ga gn gcap gl (p : Int) wA hsA (hg.mono (bW.mono hRA).below) hg0 hp1 hp (by omega) (by omega)).mono ?_
            rintro e wB ⟨ra, rn, rc, rfl, hsB, hbB, pvB⟩
            have hRB := btrans hRA hbB
            have xT := xS.mono hRB
            have g0 := xT.cell 0 _ rfl
            have g1 := xT.cell 1 _ rfl
            have z0 := xT.frozen 0
            have z1 := xT.frozen 1
            refine hK.out _ _ (KB.out _ hRB) (fun _ => ?_)
            clear hK K'
            try simp only [Act.put, List.setIfInBounds_toArray, List.set_cons_zero, List.set_cons_succ]
            refine held2_store (fun K' hK => ?_)
            go_simp
            refine hK.out _ _ trivial (fun _ => ?_)
            clear hK K'
            try simp only [Act.put, List.setIfInBounds_toArray, List.set_cons_zero, List.set_cons_succ]
            refine held2_nil ?_
            refine NoPanic.normal ?_
            have hWB := hW.mono hRB
            have pvA := ((hW.mono hRA).fresh pvB)
            have hWE := hWB.set2 (S' := remL p (mulL p S S) gl) hsB pvA (by simp)
            have hIE := hI.sq hpr cf cg HGL.out HO.out
            generalize hWF : ((wB.setCell ⟨b9, 0, none⟩ (.int .u32 (p : Int))).setCell ⟨b9, 1, none⟩ (.slice ra rn rc)) = wF at hWE ⊢
            clear hWF g0 g1 z0 z1 xT hWB KB
            have hqq := Alg.hid (half_div (nth nl i) k)
            go_wp2
            go_roundw
            case rel => exact ⟨k + 1, _, _, by rw [hqq.out, HQD.out]; simp, by go_num, by omega, hWE, hIE⟩
            case measure => simp [intOf]; omega
        · have ek : k = 32 := by omega
          subst ek
          have HW := Alg.hid hW
          go_wp2
          go_roundw
          case rel => exact ⟨i + 1, O, S, by go_num, by omega, HW.out, by rw [show 32 * (i + 1) = 32 * i + 32 by omega]; exact hI⟩
          case measure => simp [intOf]; omega
    · have ei : i = nn := by omega
      subst ei
      obtain ⟨oa, on, oc, xO, sO, oO, pO⟩ := hW.one
      have hres : O = powL p fl gl (valN nl) := by
        rw [hI.eo]
        have e1 := done_all nl hN.lt
        rw [HEN.out] at e1
        rw [e1]
      have HRES := Alg.hid hres
      clear hres
      have bW := hW.bx
      have g0 := xO.cell 0 _ rfl
      have g1 := xO.cell 1 _ rfl
      have oR := oO (w.heap.size + 1 + 1 + 1) (by simp)
      go_wp2
      (try simp only [Exit.inBlock, Exit.then])
      refine bodyPost_ret (v := .tuple #[.agg #[.int .u32 (p : Int), .slice oa on oc], .int .i64 0]) (by simp [results, Tryd.results108, go_sem, d6, d7]) rfl ?_
      rw [← HRES.out]
      exact ⟨oa, on, oc, rfl, sO.set2 oR _ _, Alg.Below.set2 bW.below (by omega) _ _, pO⟩
end Go.Proofs.YtcbhoedifgghhaaDoor
