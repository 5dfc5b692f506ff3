/- Contract of ppoly.PowMod. -/
import Derived.Test.YtcbhoedifgghhaaDoorW46
import Derived.Test.YtcbhoedifgghhaaDoorHH
open Alg Go Go.RowKit
namespace Go.Proofs.YtcbhoedifgghhaaDoor
open Go.RowKit
theorem pow_cells {w W : World} {p : Nat} {fa : Option Addr} {fn fcap : Nat} {neg : Bool} {na : Option Addr} {nn ncap : Nat} {ga : Option Addr} {gn gcap : Nat} (h : Boxes w W [#[.int .u32 (p : Int), .slice fa fn fcap], #[.bool neg, .slice na nn ncap], #[.int .u32 (p : Int), .slice ga gn gcap], #[.int .u32 0, .slice none 0 0]]) : W.cell? ⟨w.heap.size, 0, none⟩ = some (.int .u32 (p : Int)) ∧ W.cell? ⟨w.heap.size, 1, none⟩ = some (.slice fa fn fcap) ∧ W.cell? ⟨w.heap.size + 1, 0, none⟩ = some (.bool neg) ∧ W.cell? ⟨w.heap.size + 1, 1, none⟩ = some (.slice na nn ncap) ∧ W.cell? ⟨w.heap.size + 1 + 1, 0, none⟩ = some (.int .u32 (p : Int)) ∧ W.cell? ⟨w.heap.size + 1 + 1, 1, none⟩ = some (.slice ga gn gcap) ∧ W.cell? ⟨w.heap.size + 1 + 1 + 1, 0, none⟩ = some (.int .u32 0) ∧ W.cell? ⟨w.heap.size + 1 + 1 + 1, 1, none⟩ = some (.slice none 0 0) ∧ W.frozen? ⟨w.heap.size + 1 + 1 + 1, 0, none⟩ = false ∧ W.frozen? ⟨w.heap.size + 1 + 1 + 1, 1, none⟩ = false :=
  ⟨h.cell' 0 0 _ _ rfl rfl, h.cell' 0 1 _ _ rfl rfl, h.cell' 1 0 _ _ rfl rfl, h.cell' 1 1 _ _ rfl rfl, h.cell' 2 0 _ _ rfl rfl, h.cell' 2 1 _ _ rfl rfl, h.cell' 3 0 _ _ rfl rfl, h.cell' 3 1 _ _ rfl rfl, h.frozen' 3 0 (by simp), h.frozen' 3 1 (by simp)⟩
set_option maxRecDepth 100000 in
set_option maxHeartbeats 2000000 in
theorem ppoly_PowMod (p : Nat) (fa : Option Addr) (fn fcap : Nat) (fl : List Nat) (neg : Bool) (na : Option Addr) (nn ncap : Nat) (nl : List Nat) (ga : Option Addr) (gn gcap : Nat) (gl : List Nat) (w : World)
    (hf : Sl w fa fn fcap fl) (hN : Sl w na nn ncap nl) (hg : Sl w ga gn gcap gl) (hpr : IsPr p) (hp : p < 4294967296) (cf : Canon p fl) (cg : Canon p gl) (hneg : neg = true → nn = 0) (hg0 : 0 < gn)
    (hfn : fn ≤ 1000000000) (hgn : gn ≤ 1000000000) (hnn : nn ≤ 1000000000) :
    Calls Tryd.prog 106 #[.agg #[.int .u32 (p : Int), .slice fa fn fcap], .agg #[.bool neg, .slice na nn ncap], .agg #[.int .u32 (p : Int), .slice ga gn gcap]] w (RetPE p (powL p fl gl (valN nl)) 0 w) := by
  haveI hne : NeZero p := ⟨by have := hpr.1; omega⟩
  have hp1 : 1 < p := hpr.1
  have hp0 : 0 < p := by omega
  have hgl : gl ≠ [] := fun e => by have := hg.len; rw [e] at this; simp at this; omega
  have eg := hg.len
  have ef := hf.len
  have en := hN.len
  have hlead : nth gl (gn - 1) ≠ 0 := by
    rcases cg.top with h | h
    · exact absurd h hgl
    · rw [← eg]; exact h
  have PC := Alg.hid (fun n => powL_canon hpr cf cg hgl n)
  have PS := Alg.hid (fun N => PI.start hpr cf cg hgl N)
  have hsg : ∃ sg : Int, (if nn = 0 then 0 else if neg then -1 else 1) = sg ∧ ¬ sg < 0 := by
    by_cases h0 : nn = 0
    · exact ⟨0, by rw [if_pos h0], by omega⟩
    · cases neg with
      | true => exact absurd (hneg rfl) h0
      | false => exact ⟨1, by rw [if_neg h0]; rfl, by omega⟩
  obtain ⟨sg, hsg1, hsg2⟩ := hsg
  have HSG := Alg.hid hsg1
  have HLEAD := Alg.hid hlead
  have HGL := Alg.hid hgl
  have HEG := Alg.hid eg
  have HEN := Alg.hid en
  clear hsg1 hneg hlead hgl eg en
  have hbx := boxes4 w #[.int .u32 (p : Int), .slice fa fn fcap] #[.bool neg, .slice na nn ncap] #[.int .u32 (p : Int), .slice ga gn gcap] #[.int .u32 0, .slice none 0 0] 25 80 25 25
  go_enter Tryd.func106, Tryd.ntmps106
  go_wp2_with fail
  generalize hW0 : ((((w.alloc (.cells #[.int .u32 (p : Int), .slice fa fn fcap] 25)).alloc (.cells #[.bool neg, .slice na nn ncap] 80)).alloc (.cells #[.int .u32 (p : Int), .slice ga gn gcap] 25)).alloc (.cells #[.int .u32 0, .slice none 0 0] 25)) = W0 at hbx ⊢
  clear hW0
  have K : Hid (∀ W, Boxes w W [#[.int .u32 (p : Int), .slice fa fn fcap], #[.bool neg, .slice na nn ncap], #[.int .u32 (p : Int), .slice ga gn gcap], #[.int .u32 0, .slice none 0 0]] → W.cell? ⟨w.heap.size, 0, none⟩ = some (.int .u32 (p : Int)) ∧ W.cell? ⟨w.heap.size, 1, none⟩ = some (.slice fa fn fcap) ∧ W.cell? ⟨w.heap.size + 1, 0, none⟩ = some (.bool neg) ∧ W.cell? ⟨w.heap.size + 1, 1, none⟩ = some (.slice na nn ncap) ∧ W.cell? ⟨w.heap.size + 1 + 1, 0, none⟩ = some (.int .u32 (p : Int)) ∧ W.cell? ⟨w.heap.size + 1 + 1, 1, none⟩ = some (.slice ga gn gcap) ∧ W.cell? ⟨w.heap.size + 1 + 1 + 1, 0, none⟩ = some (.int .u32 0) ∧ W.cell? ⟨w.heap.size + 1 + 1 + 1, 1, none⟩ = some (.slice none 0 0) ∧ W.frozen? ⟨w.heap.size + 1 + 1 + 1, 0, none⟩ = false ∧ W.frozen? ⟨w.heap.size + 1 + 1 + 1, 1, none⟩ = false) := fun W h => pow_cells h
  refine (whole_Sign neg na nn ncap W0 (by omega)).mono ?_
  rw [HSG.out]
  rintro e w1 ⟨rfl, hb1⟩
  have hx1 := hbx.mono hb1
  obtain ⟨d0, d1, d2, d3, d4, d5, d6, d7, d8, d9⟩ := K.out w1 hx1
  go_wp2_with fail
  refine (ppoly_Deg (p : Int) ga gn gcap w1 (by omega)).mono ?_
  rintro e w2 ⟨rfl, hb2⟩
  have hx2 := hx1.mono hb2
  clear d0 d1 d2 d3 d4 d5 d6 d7 d8 d9
  obtain ⟨d0, d1, d2, d3, d4, d5, d6, d7, d8, d9⟩ := K.out w2 hx2
  have hdg : ¬ (gn : Int) - 1 < 0 := by omega
  go_wp2
  have hx2d := hx2.drew
  refine wp_region_lay 11 [(true, 0), (true, 1), (true, 4), (true, 6), (true, 7), (false, 2), (false, 3), (false, 5), (false, 8)] [⟨9, 8, #[.int .u32 0, .slice none 0 0], 25⟩, ⟨10, 9, #[.int .u32 0, .slice none 0 0], 25⟩] (by kernel_rfl) (by kernel_rfl) (fun x hx o ho ρ W => ?_) (fun v0 hv0 => ?_)
  · simp only [List.mem_cons, List.not_mem_nil, or_false] at hx
    rcases hx with rfl | rfl
    all_goals (obtain rfl := Option.some.inj ho; go_simp)
  simp only [pick, List.getElem?_cons_succ, List.getElem?_cons_zero]
  iterate 5
    (refine heldR_quiet (v := ?_) (by rfl) ?_ ?_
     rotate_left
     · intro W hW; obtain ⟨d0, d1, d2, d3, d4, d5, d6, d7, d8, d9⟩ := K.out W (hx2d.mono hW); go_simp; (try with_reducible rfl)
     try simp only [Act.put, List.setIfInBounds_toArray, List.set_cons_zero, List.set_cons_succ])
  refine heldR_loud (fun K' hK => ?_)
  go_simp
  have hS1 := sl_one1 v0 22
  refine hK.out _ _ (balloc (Below.refl _ v0) _) (fun v1 hv1 => ?_)
  clear hK K'
  have hS1v := hS1.mono hv1
  try simp only [Act.put, List.setIfInBounds_toArray, List.set_cons_zero, List.set_cons_succ]
  refine heldR_loud (fun K' hK => ?_)
  go_simp
  refine (ppoly_of p _ 1 1 [1] v1 hS1v).mono ?_
  rintro e v2 ⟨oa, on, oc, rfl, hsO, hbO, _⟩
  have hxv2 := (hx2d.mono hv0).mono ((balloc (Below.refl _ v0) (.cells #[.int .u32 1] 22)).trans (hv1.mono (size_le_alloc _ _)))
  have hxv2 := hxv2.mono hbO
  refine hK.out _ _ (hbO) (fun v3 hv3 => ?_)
  clear hK K'
  have t1 : trim [1] = [1] := by decide
  rw [t1] at hsO
  have hsO3 := hsO.mono hv3
  have hxv3 := hxv2.mono hv3
  have lon : on ≤ 1099511627776 := by have := hsO.len; simp at this; omega
  try simp only [Act.put, List.setIfInBounds_toArray, List.set_cons_zero, List.set_cons_succ]
  refine heldR_loud (fun K' hK => ?_)
  go_simp
  refine (ppoly_mod p oa on oc [1] ga gn gcap gl (p : Int) v3 hsO3 (hg.mono hxv3.below) hg0 HLEAD.out hp1 hp lon (by omega)).mono ?_
  rintro e v4 ⟨ua, un, uc, rfl, hsU, hbU, pvU⟩
  have hxv4 := hxv3.mono hbU
  refine hK.out _ _ (hbU) (fun v5 hv5 => ?_)
  clear hK K'
  have hsU5 := hsU.mono hv5
  have hxv5 := hxv4.mono hv5
  try simp only [Act.put, List.setIfInBounds_toArray, List.set_cons_zero, List.set_cons_succ]
  refine heldR_loud (fun K' hK => ?_)
  go_simp
  refine (ppoly_mod p fa fn fcap fl ga gn gcap gl (p : Int) v5 (hf.mono hxv5.below) (hg.mono hxv5.below) hg0 HLEAD.out hp1 hp (by omega) (by omega)).mono ?_
  rintro e v6 ⟨sa, sn, sc, rfl, hsS, hbS, pvS⟩
  have hxv6 := hxv5.mono hbS
  refine hK.out _ _ (hbS) (fun v7 hv7 => ?_)
  clear hK K'
  have hsU7 := (hsU5.mono hbS).mono hv7
  have hsS7 := hsS.mono hv7
  have hxv7 := hxv6.mono hv7
  try simp only [Act.put, List.setIfInBounds_toArray, List.set_cons_zero, List.set_cons_succ]
  refine heldR_nil ?_
  intro bl wz hRz hSz hGz
  obtain ⟨b8, b9, hact, hne89, hb8, hb9, ho8, ho9⟩ := good2 (by decide) hSz hGz
  rw [hact]
  have hxz := hxv7.mono hRz
  have hsUz := hsU7.mono hRz
  have hsSz := hsS7.mono hRz
  have hq8 : w.heap.size + 4 ≤ b8 := Nat.le_trans hx2d.size hb8
  have hq9 : w.heap.size + 4 ≤ b9 := Nat.le_trans hx2d.size hb9
  have hpi := PS.out (valN nl)
  have q3 := hxv3.size
  have q5 := hxv5.size
  simp only [List.length_cons, List.length_nil] at q3 q5
  have hpw := PW.start (p := p) (L := [#[.int .u32 (p : Int), .slice fa fn fcap], #[.bool neg, .slice na nn ncap], #[.int .u32 (p : Int), .slice ga gn gcap], #[.int .u32 0, .slice none 0 0]]) hxz hq8 hq9 hne89 ho8 ho9 (r := w.heap.size + 1 + 1 + 1) (by simp) hsUz hsSz (remL_md hpr (canon_one hpr) cg HGL.out).canon hpi.cs ⟨pvU.off0 (by omega), pvU.mono (by omega)⟩ ⟨pvS.off0 (by omega), pvS.mono (by omega)⟩
  have xb8 := box_of_obj ho8
  have xb9 := box_of_obj ho9
  have g0 := xb8.cell 0 _ rfl
  have g1 := xb8.cell 1 _ rfl
  have g2 := xb9.cell 0 _ rfl
  have g3 := xb9.cell 1 _ rfl
  have z0 := xb8.frozen 0
  have z1 := xb8.frozen 1
  have z2 := xb9.frozen 0
  have z3 := xb9.frozen 1
  have hne98 : b9 ≠ b8 := fun e => hne89 e.symm
  simp only [List.drop_succ_cons, List.drop_zero]
  (try simp only [Act.put, List.setIfInBounds_toArray, List.set_cons_zero, List.set_cons_succ])
  go_wp2
  refine NoPanic.normal ?_
  generalize hWT : ((((wz.setCell ⟨b8, 0, none⟩ (.int .u32 (p : Int))).setCell ⟨b8, 1, none⟩ (.slice ua un uc)).setCell ⟨b9, 0, none⟩ (.int .u32 (p : Int))).setCell ⟨b9, 1, none⟩ (.slice sa sn sc)) = wt at hpw ⊢
  clear hWT g0 g1 g2 g3 z0 z1 z2 z3 xb8 xb9 ho8 ho9 hxz hsUz hsSz hact hGz hSz hRz hsU7 hsS7 hxv7 hv7 hxv6 hbS hsS hxv5 hsU5 hv5 hxv4 hbU hsU hxv3 hsO3 hv3 hsO hxv2 hbO hS1v hv1 hS1 hv0 hx2d hx1 hx2 hbx hb1 hb2 t1 d0 d1 d2 d3 d4 d5 d6 d7 d8 d9 pvU pvS q3 q5 lon
  have HPI := Alg.hid hpi
  clear hpi
  have HPW := Alg.hid hpw
  have hxt := hpw.bx
  clear hpw
  obtain ⟨d0, d1, d2, d3, d4, d5, d6, d7, d8, d9⟩ := K.out wt hxt
  go_wp2
  clear d0 d1 d2 d3 d4 d5 d6 d7 d8 d9
  clear hxt
  go_loopw [35] (fun v wr => ∃ (i : Nat) (O S : List Nat), v = .int .i64 i ∧ i ≤ nn ∧ PW w wr [#[.int .u32 (p : Int), .slice fa fn fcap], #[.bool neg, .slice na nn ncap], #[.int .u32 (p : Int), .slice ga gn gcap], #[.int .u32 0, .slice none 0 0]] p b8 b9 [b8, b9, w.heap.size + 1 + 1 + 1] O S ∧ PI p fl gl (valN nl) (32 * i) O S) (fun v _ => nn - (intOf v).toNat)
  case atStart => exact ⟨0, _, _, rfl, Nat.zero_le _, HPW.out, HPI.out⟩
  case round =>
    clear HPW HPI
    obtain ⟨i, O, S, rfl, hi, hW, hI⟩ := hrel
    by_cases hin : i < nn
    · rcases hN.rd with h0 | ⟨nb, noff, rfl, hnc⟩
      · omega
      have c1 : wr.cell? ⟨nb, noff + i, none⟩ = some (.int .u32 (nth nl i : Nat)) := (hW.bx.below.cell (p := ⟨nb, noff + i, none⟩) (cell_lt (hnc i hin))).trans (hnc i hin)
      have hclt := hN.lt i
      have s1 : (0 : Int) ≤ (i : Int) := by omega
      have s2 : (i : Int) < (nn : Int) := by omega
      clear hnc
      go_wp2
      clear c1
      go_loopw [40] (fun v wr => ∃ (k : Nat) (O S : List Nat), v = .int .i64 k ∧ k ≤ 32 ∧ PW w wr [#[.int .u32 (p : Int), .slice fa fn fcap], #[.bool neg, .slice (some ⟨nb, noff, none⟩) nn ncap], #[.int .u32 (p : Int), .slice ga gn gcap], #[.int .u32 0, .slice none 0 0]] p b8 b9 [b8, b9, w.heap.size + 1 + 1 + 1] O S ∧ PI p fl gl (valN nl) (32 * i + k) O S) (fun v _ => 32 - (intOf v).toNat)
      case atStart => exact ⟨0, O, S, rfl, by omega, hW, hI⟩
      case round =>
        clear hW hI
        obtain ⟨k, O, S, rfl, hk, hW, hI⟩ := hrel
        by_cases hk32 : k < 32
        · have hlb := limb_bit nl hN.lt i k hk32
          have t1 : (0 : Int) ≤ (k : Int) := by omega
          have t2 : (k : Int) < 32 := by omega
          have LO := (PC.out (valN nl % 2 ^ (32 * i + k))).2
          rw [← hI.eo] at LO
          have LS := hI.ls
          have eg' := HEG.out
          by_cases hb : nth nl i / 2 ^ k % 2 = 1
          · have hbt := bit_yes32 (nth nl i) k hclt hb
            rw [hlb] at hb
            have HO := Alg.hid (hI.one hpr cf cg HGL.out hb)
            clear hlb hb
            obtain ⟨oa, on, oc, xO, sO, _⟩ := hW.one
            obtain ⟨sa, sn, sc, xS, sS, _⟩ := hW.two
            have bW := hW.bx
            have loa := sO.len
            have lsa := sS.len
            have KB : Hid (∀ W, Below wr.heap.size wr W → W.cell? ⟨b8, 0, none⟩ = some (.int .u32 (p : Int)) ∧ W.cell? ⟨b8, 1, none⟩ = some (.slice oa on oc) ∧ W.cell? ⟨b9, 0, none⟩ = some (.int .u32 (p : Int)) ∧ W.cell? ⟨b9, 1, none⟩ = some (.slice sa sn sc) ∧ W.cell? ⟨w.heap.size + 1 + 1, 0, none⟩ = some (.int .u32 (p : Int)) ∧ W.cell? ⟨w.heap.size + 1 + 1, 1, none⟩ = some (.slice ga gn gcap)) := fun W h => ⟨(xO.mono h).cell 0 _ rfl, (xO.mono h).cell 1 _ rfl, (xS.mono h).cell 0 _ rfl, (xS.mono h).cell 1 _ rfl, (bW.mono h).cell' 2 0 _ _ rfl rfl, (bW.mono h).cell' 2 1 _ _ rfl rfl⟩
            have hR0 := bdrew (Below.refl wr.heap.size wr)
            go_wp2
            refine wp_region_noPanic ?_
            refine wp_region_held2 5 [(1, 0), (1, 1), (1, 3), (0, 2), (0, 4), (3, 5)] (fun W => W.cell? ⟨b8, 0, none⟩ = some (.int .u32 (p : Int)) ∧ W.cell? ⟨b8, 1, none⟩ = some (.slice oa on oc) ∧ W.cell? ⟨b9, 0, none⟩ = some (.int .u32 (p : Int)) ∧ W.cell? ⟨b9, 1, none⟩ = some (.slice sa sn sc) ∧ W.cell? ⟨w.heap.size + 1 + 1, 0, none⟩ = some (.int .u32 (p : Int)) ∧ W.cell? ⟨w.heap.size + 1 + 1, 1, none⟩ = some (.slice ga gn gcap)) (fun _ => True) (by kernel_rfl) (by kernel_rfl) (fun _ _ _ _ _ h => h) (fun _ _ => trivial) (KB.out _ hR0) (fun _ => ?_)
            simp only [pick2, List.getElem?_cons_succ, List.getElem?_cons_zero]
            iterate 3
              (refine held2_early (v := ?_) (by rfl) ?_ ?_
               rotate_left
               · intro W hSw; (try dsimp only at hSw); go_simp; (try with_reducible rfl)
               try simp only [Act.put, List.setIfInBounds_toArray, List.set_cons_zero, List.set_cons_succ])
            refine held2_loud (fun K' hK => ?_)
            go_simp
            refine (ppoly_Mul p oa on oc O sa sn sc S (p : Int) wr.drew (sO.mono hR0) (sS.mono hR0) hp0 hp (by omega) (by omega)).mono ?_
            rintro e wA ⟨ua, un, uc, rfl, hsA, hbA, _⟩
            have hRA := btrans hR0 hbA
            have lun := hsA.len
            have lML := mulL_len p O S
            refine hK.out _ _ (KB.out _ hRA) (fun _ => ?_)
            clear hK K'
            try simp only [Act.put, List.setIfInBounds_toArray, List.set_cons_zero, List.set_cons_succ]
            refine held2_loud (fun K' hK => ?_)
            go_simp
            refine (ppoly_mod p ua un uc (mulL p O S) ga gn gcap gl (p : Int) wA hsA (hg.mono (bW.mono hRA).below) hg0 HLEAD.out hp1 hp (by omega) (by omega)).mono ?_
            rintro e wB ⟨ra, rn, rc, rfl, hsB, hbB, pvB⟩
            have hRB := btrans hRA hbB
            have xT := xO.mono hRB
            have g0 := xT.cell 0 _ rfl
            have g1 := xT.cell 1 _ rfl
            have z0 := xT.frozen 0
            have z1 := xT.frozen 1
            refine hK.out _ _ (KB.out _ hRB) (fun _ => ?_)
            clear hK K'
            try simp only [Act.put, List.setIfInBounds_toArray, List.set_cons_zero, List.set_cons_succ]
            refine held2_store (fun K' hK => ?_)
            go_simp
            refine hK.out _ _ trivial (fun _ => ?_)
            clear hK K'
            try simp only [Act.put, List.setIfInBounds_toArray, List.set_cons_zero, List.set_cons_succ]
            refine held2_nil ?_
            refine NoPanic.normal ?_
            have hWB := hW.mono hRB
            have pvA := ((hW.mono hRA).fresh pvB)
            have hWC := hWB.set1 (O' := remL p (mulL p O S) gl) hsB pvA (by simp)
            generalize hWD : ((wB.setCell ⟨b8, 0, none⟩ (.int .u32 (p : Int))).setCell ⟨b8, 1, none⟩ (.slice ra rn rc)) = wD at hWC ⊢
            clear hWD g0 g1 z0 z1 xT hWB KB xO xS sO sS bW hbt hRB hRA hR0 hsA hsB hbA hbB loa lsa
            obtain ⟨_, _, _, d3, _⟩ := K.out wD hWC.bx
            by_cases hup : i < nn - 1 ∨ 1 < nth nl i / 2 ^ k
            · have HUP : Hid (((decide ((i : Int) < (nn : Int) - 1)) || decide ((1 : Int) < (nth nl i : Int) / 2 ^ k)) = true) := by
                show _ = _
                rw [Bool.or_eq_true, decide_eq_true_eq, decide_eq_true_eq]
                have ec : (nth nl i : Int) / 2 ^ k = ((nth nl i / 2 ^ k : Nat) : Int) := by simp
                rw [ec]
                omega
              by_cases hu1 : i < nn - 1
              · have hv1 : (i : Int) < (nn : Int) - 1 := by omega
                clear hup HUP hu1
                obtain ⟨oa, on, oc, xO, sO, _⟩ := hWC.one
                obtain ⟨sa, sn, sc, xS, sS, _⟩ := hWC.two
                have bW := hWC.bx
                have loa := sO.len
                have lsa := sS.len
                have KB : Hid (∀ W, Below wD.heap.size wD W → W.cell? ⟨b8, 0, none⟩ = some (.int .u32 (p : Int)) ∧ W.cell? ⟨b8, 1, none⟩ = some (.slice oa on oc) ∧ W.cell? ⟨b9, 0, none⟩ = some (.int .u32 (p : Int)) ∧ W.cell? ⟨b9, 1, none⟩ = some (.slice sa sn sc) ∧ W.cell? ⟨w.heap.size + 1 + 1, 0, none⟩ = some (.int .u32 (p : Int)) ∧ W.cell? ⟨w.heap.size + 1 + 1, 1, none⟩ = some (.slice ga gn gcap)) := fun W h => ⟨(xO.mono h).cell 0 _ rfl, (xO.mono h).cell 1 _ rfl, (xS.mono h).cell 0 _ rfl, (xS.mono h).cell 1 _ rfl, (bW.mono h).cell' 2 0 _ _ rfl rfl, (bW.mono h).cell' 2 1 _ _ rfl rfl⟩
                have hR0 := bdrew (Below.refl wD.heap.size wD)
                go_wp2
                refine wp_region_noPanic ?_
                refine wp_region_held2 5 [(1, 0), (1, 1), (1, 3), (0, 2), (0, 4), (3, 5)] (fun W => W.cell? ⟨b8, 0, none⟩ = some (.int .u32 (p : Int)) ∧ W.cell? ⟨b8, 1, none⟩ = some (.slice oa on oc) ∧ W.cell? ⟨b9, 0, none⟩ = some (.int .u32 (p : Int)) ∧ W.cell? ⟨b9, 1, none⟩ = some (.slice sa sn sc) ∧ W.cell? ⟨w.heap.size + 1 + 1, 0, none⟩ = some (.int .u32 (p : Int)) ∧ W.cell? ⟨w.heap.size + 1 + 1, 1, none⟩ = some (.slice ga gn gcap)) (fun _ => True) (by kernel_rfl) (by kernel_rfl) (fun _ _ _ _ _ h => h) (fun _ _ => trivial) (KB.out _ hR0) (fun _ => ?_)
                simp only [pick2, List.getElem?_cons_succ, List.getElem?_cons_zero]
                iterate 3
                  (refine held2_early (v := ?_) (by rfl) ?_ ?_
                   rotate_left
                   · intro W hSw; (try dsimp only at hSw); go_simp; (try with_reducible rfl)
                   try simp only [Act.put, List.setIfInBounds_toArray, List.set_cons_zero, List.set_cons_succ])
                refine held2_loud (fun K' hK => ?_)
                go_simp
                refine (ppoly_Mul p sa sn sc S sa sn sc S (p : Int) wD.drew (sS.mono hR0) (sS.mono hR0) hp0 hp (by omega) (by omega)).mono ?_
                rintro e wA ⟨ua, un, uc, rfl, hsA, hbA, _⟩
                have hRA := btrans hR0 hbA
                have lun := hsA.len
                have lML := mulL_len p S S
                refine hK.out _ _ (KB.out _ hRA) (fun _ => ?_)
                clear hK K'
                try simp only [Act.put, List.setIfInBounds_toArray, List.set_cons_zero, List.set_cons_succ]
                refine held2_loud (fun K' hK => ?_)
                go_simp
                refine (ppoly_mod p ua un uc (mulL p S S) ga gn gcap gl (p : Int) wA hsA (hg.mono (bW.mono hRA).below) hg0 HLEAD.out hp1 hp (by omega) (by omega)).mono ?_
                rintro e wB ⟨ra, rn, rc, rfl, hsB, hbB, pvB⟩
                have hRB := btrans hRA hbB
                have xT := xS.mono hRB
                have g0 := xT.cell 0 _ rfl
                have g1 := xT.cell 1 _ rfl
                have z0 := xT.frozen 0
                have z1 := xT.frozen 1
                refine hK.out _ _ (KB.out _ hRB) (fun _ => ?_)
                clear hK K'
                try simp only [Act.put, List.setIfInBounds_toArray, List.set_cons_zero, List.set_cons_succ]
                refine held2_store (fun K' hK => ?_)
                go_simp
                refine hK.out _ _ trivial (fun _ => ?_)
                clear hK K'
                try simp only [Act.put, List.setIfInBounds_toArray, List.set_cons_zero, List.set_cons_succ]
                refine held2_nil ?_
                refine NoPanic.normal ?_
                have hWB := hWC.mono hRB
                have pvA := ((hWC.mono hRA).fresh pvB)
                have hWE := hWB.set2 (S' := remL p (mulL p S S) gl) hsB pvA (by simp)
                have hIE := hI.sq hpr cf cg HGL.out HO.out
                generalize hWF : ((wB.setCell ⟨b9, 0, none⟩ (.int .u32 (p : Int))).setCell ⟨b9, 1, none⟩ (.slice ra rn rc)) = wF at hWE ⊢
                clear hWF g0 g1 z0 z1 xT hWB KB
                go_wp2
                go_roundw
                case rel => exact ⟨k + 1, _, _, by go_num, by omega, hWE, hIE⟩
                case measure => simp [intOf]; omega
              · have hv1 : ¬ (i : Int) < (nn : Int) - 1 := by omega
                have hv2 : (1 : Int) < (nth nl i : Int) / 2 ^ k := by
                  have ec : (nth nl i : Int) / 2 ^ k = ((nth nl i / 2 ^ k : Nat) : Int) := by simp
                  rw [ec]; omega
                clear hup HUP hu1
                obtain ⟨oa, on, oc, xO, sO, _⟩ := hWC.one
                obtain ⟨sa, sn, sc, xS, sS, _⟩ := hWC.two
                have bW := hWC.bx
                have loa := sO.len
                have lsa := sS.len
                have KB : Hid (∀ W, Below wD.heap.size wD W → W.cell? ⟨b8, 0, none⟩ = some (.int .u32 (p : Int)) ∧ W.cell? ⟨b8, 1, none⟩ = some (.slice oa on oc) ∧ W.cell? ⟨b9, 0, none⟩ = some (.int .u32 (p : Int)) ∧ W.cell? ⟨b9, 1, none⟩ = some (.slice sa sn sc) ∧ W.cell? ⟨w.heap.size + 1 + 1, 0, none⟩ = some (.int .u32 (p : Int)) ∧ W.cell? ⟨w.heap.size + 1 + 1, 1, none⟩ = some (.slice ga gn gcap)) := fun W h => ⟨(xO.mono h).cell 0 _ rfl, (xO.mono h).cell 1 _ rfl, (xS.mono h).cell 0 _ rfl, (xS.mono h).cell 1 _ rfl, (bW.mono h).cell' 2 0 _ _ rfl rfl, (bW.mono h).cell' 2 1 _ _ rfl rfl⟩
                have hR0 := bdrew (Below.refl wD.heap.size wD)
                go_wp2
                refine wp_region_noPanic ?_
                refine wp_region_held2 5 [(1, 0), (1, 1), (1, 3), (0, 2), (0, 4), (3, 5)] (fun W => W.cell? ⟨b8, 0, none⟩ = some (.int .u32 (p : Int)) ∧ W.cell? ⟨b8, 1, none⟩ = some (.slice oa on oc) ∧ W.cell? ⟨b9, 0, none⟩ = some (.int .u32 (p : Int)) ∧ W.cell? ⟨b9, 1, none⟩ = some (.slice sa sn sc) ∧ W.cell? ⟨w.heap.size + 1 + 1, 0, none⟩ = some (.int .u32 (p : Int)) ∧ W.cell? ⟨w.heap.size + 1 + 1, 1, none⟩ = some (.slice ga gn gcap)) (fun _ => True) (by kernel_rfl) (by kernel_rfl) (fun _ _ _ _ _ h => h) (fun _ _ => trivial) (KB.out _ hR0) (fun _ => ?_)
                simp only [pick2, List.getElem?_cons_succ, List.getElem?_cons_zero]
                iterate 3
                  (refine held2_early (v := ?_) (by rfl) ?_ ?_
                   rotate_left
                   · intro W hSw; (try dsimp only at hSw); go_simp; (try with_reducible rfl)
                   try simp only [Act.put, List.setIfInBounds_toArray, List.set_cons_zero, List.set_cons_succ])
                refine held2_loud (fun K' hK => ?_)
                go_simp
                refine (ppoly_Mul p sa sn sc S sa sn sc S (p : Int) wD.drew (sS.mono hR0) (sS.mono hR0) hp0 hp (by omega) (by omega)).mono ?_
                rintro e wA ⟨ua, un, uc, rfl, hsA, hbA, _⟩
                have hRA := btrans hR0 hbA
                have lun := hsA.len
                have lML := mulL_len p S S
                refine hK.out _ _ (KB.out _ hRA) (fun _ => ?_)
                clear hK K'
                try simp only [Act.put, List.setIfInBounds_toArray, List.set_cons_zero, List.set_cons_succ]
                refine held2_loud (fun K' hK => ?_)
                go_simp
                refine (ppoly_mod p ua un uc (mulL p S S) ga gn gcap gl (p : Int) wA hsA (hg.mono (bW.mono hRA).below) hg0 HLEAD.out hp1 hp (by omega) (by omega)).mono ?_
                rintro e wB ⟨ra, rn, rc, rfl, hsB, hbB, pvB⟩
                have hRB := btrans hRA hbB
                have xT := xS.mono hRB
                have g0 := xT.cell 0 _ rfl
                have g1 := xT.cell 1 _ rfl
                have z0 := xT.frozen 0
                have z1 := xT.frozen 1
                refine hK.out _ _ (KB.out _ hRB) (fun _ => ?_)
                clear hK K'
                try simp only [Act.put, List.setIfInBounds_toArray, List.set_cons_zero, List.set_cons_succ]
                refine held2_store (fun K' hK => ?_)
                go_simp
                refine hK.out _ _ trivial (fun _ => ?_)
                clear hK K'
                try simp only [Act.put, List.setIfInBounds_toArray, List.set_cons_zero, List.set_cons_succ]
                refine held2_nil ?_
                refine NoPanic.normal ?_
                have hWB := hWC.mono hRB
                have pvA := ((hWC.mono hRA).fresh pvB)
                have hWE := hWB.set2 (S' := remL p (mulL p S S) gl) hsB pvA (by simp)
                have hIE := hI.sq hpr cf cg HGL.out HO.out
                generalize hWF : ((wB.setCell ⟨b9, 0, none⟩ (.int .u32 (p : Int))).setCell ⟨b9, 1, none⟩ (.slice ra rn rc)) = wF at hWE ⊢
                clear hWF g0 g1 z0 z1 xT hWB KB
                go_wp2
                go_roundw
                case rel => exact ⟨k + 1, _, _, by go_num, by omega, hWE, hIE⟩
                case measure => simp [intOf]; omega
            · have hv1 : ¬ (i : Int) < (nn : Int) - 1 := by omega
              have hv2 : ¬ (1 : Int) < (nth nl i : Int) / 2 ^ k := by
                have ec : (nth nl i : Int) / 2 ^ k = ((nth nl i / 2 ^ k : Nat) : Int) := by simp
                rw [ec]; omega
              have hz := Alg.hid (top_small nl hN.lt i k (by rw [HEN.out]; omega) (by omega))
              clear hup
              have hIE := hI.keep HO.out hz.out
              have HW := Alg.hid hWC
              go_wp2
              go_roundw
              case rel => exact ⟨k + 1, _, _, by go_num, by omega, HW.out, hIE⟩
              case measure => simp [intOf]; omega
          · have hbt := bit_no32 (nth nl i) k hclt hb
            rw [hlb] at hb
            have HO := Alg.hid (hI.zero hb)
            clear hlb hb
            obtain ⟨_, _, _, d3, _⟩ := K.out wr hW.bx
            by_cases hup : i < nn - 1 ∨ 1 < nth nl i / 2 ^ k
            · have HUP : Hid (((decide ((i : Int) < (nn : Int) - 1)) || decide ((1 : Int) < (nth nl i : Int) / 2 ^ k)) = true) := by
                show _ = _
                rw [Bool.or_eq_true, decide_eq_true_eq, decide_eq_true_eq]
                have ec : (nth nl i : Int) / 2 ^ k = ((nth nl i / 2 ^ k : Nat) : Int) := by simp
                rw [ec]
                omega
              by_cases hu1 : i < nn - 1
              · have hv1 : (i : Int) < (nn : Int) - 1 := by omega
                clear hup HUP hu1
                obtain ⟨oa, on, oc, xO, sO, _⟩ := hW.one
                obtain ⟨sa, sn, sc, xS, sS, _⟩ := hW.two
                have bW := hW.bx
                have loa := sO.len
                have lsa := sS.len
                have KB : Hid (∀ W, Below wr.heap.size wr W → W.cell? ⟨b8, 0, none⟩ = some (.int .u32 (p : Int)) ∧ W.cell? ⟨b8, 1, none⟩ = some (.slice oa on oc) ∧ W.cell? ⟨b9, 0, none⟩ = some (.int .u32 (p : Int)) ∧ W.cell? ⟨b9, 1, none⟩ = some (.slice sa sn sc) ∧ W.cell? ⟨w.heap.size + 1 + 1, 0, none⟩ = some (.int .u32 (p : Int)) ∧ W.cell? ⟨w.heap.size + 1 + 1, 1, none⟩ = some (.slice ga gn gcap)) := fun W h => ⟨(xO.mono h).cell 0 _ rfl, (xO.mono h).cell 1 _ rfl, (xS.mono h).cell 0 _ rfl, (xS.mono h).cell 1 _ rfl, (bW.mono h).cell' 2 0 _ _ rfl rfl, (bW.mono h).cell' 2 1 _ _ rfl rfl⟩
                have hR0 := bdrew (Below.refl wr.heap.size wr)
                go_wp2
                refine wp_region_noPanic ?_
                refine wp_region_held2 5 [(1, 0), (1, 1), (1, 3), (0, 2), (0, 4), (3, 5)] (fun W => W.cell? ⟨b8, 0, none⟩ = some (.int .u32 (p : Int)) ∧ W.cell? ⟨b8, 1, none⟩ = some (.slice oa on oc) ∧ W.cell? ⟨b9, 0, none⟩ = some (.int .u32 (p : Int)) ∧ W.cell? ⟨b9, 1, none⟩ = some (.slice sa sn sc) ∧ W.cell? ⟨w.heap.size + 1 + 1, 0, none⟩ = some (.int .u32 (p : Int)) ∧ W.cell? ⟨w.heap.size + 1 + 1, 1, none⟩ = some (.slice ga gn gcap)) (fun _ => True) (by kernel_rfl) (by kernel_rfl) (fun _ _ _ _ _ h => h) (fun _ _ => trivial) (KB.out _ hR0) (fun _ => ?_)
                simp only [pick2, List.getElem?_cons_succ, List.getElem?_cons_zero]
                iterate 3
                  (refine held2_early (v := ?_) (by rfl) ?_ ?_
                   rotate_left
                   · intro W hSw; (try dsimp only at hSw); go_simp; (try with_reducible rfl)
                   try simp only [Act.put, List.setIfInBounds_toArray, List.set_cons_zero, List.set_cons_succ])
                refine held2_loud (fun K' hK => ?_)
                go_simp
                refine (ppoly_Mul p sa sn sc S sa sn sc S (p : Int) wr.drew (sS.mono hR0) (sS.mono hR0) hp0 hp (by omega) (by omega)).mono ?_
                rintro e wA ⟨ua, un, uc, rfl, hsA, hbA, _⟩
                have hRA := btrans hR0 hbA
                have lun := hsA.len
                have lML := mulL_len p S S
                refine hK.out _ _ (KB.out _ hRA) (fun _ => ?_)
                clear hK K'
                try simp only [Act.put, List.setIfInBounds_toArray, List.set_cons_zero, List.set_cons_succ]
                refine held2_loud (fun K' hK => ?_)
                go_simp
                refine (ppoly_mod p ua un uc (mulL p S S) ga gn gcap gl (p : Int) wA hsA (hg.mono (bW.mono hRA).below) hg0 HLEAD.out hp1 hp (by omega) (by omega)).mono ?_
                rintro e wB ⟨ra, rn, rc, rfl, hsB, hbB, pvB⟩
                have hRB := btrans hRA hbB
                have xT := xS.mono hRB
                have g0 := xT.cell 0 _ rfl
                have g1 := xT.cell 1 _ rfl
                have z0 := xT.frozen 0
                have z1 := xT.frozen 1
                refine hK.out _ _ (KB.out _ hRB) (fun _ => ?_)
                clear hK K'
                try simp only [Act.put, List.setIfInBounds_toArray, List.set_cons_zero, List.set_cons_succ]
                refine held2_store (fun K' hK => ?_)
                go_simp
                refine hK.out _ _ trivial (fun _ => ?_)
                clear hK K'
                try simp only [Act.put, List.setIfInBounds_toArray, List.set_cons_zero, List.set_cons_succ]
                refine held2_nil ?_
                refine NoPanic.normal ?_
                have hWB := hW.mono hRB
                have pvA := ((hW.mono hRA).fresh pvB)
                have hWE := hWB.set2 (S' := remL p (mulL p S S) gl) hsB pvA (by simp)
                have hIE := hI.sq hpr cf cg HGL.out HO.out
                generalize hWF : ((wB.setCell ⟨b9, 0, none⟩ (.int .u32 (p : Int))).setCell ⟨b9, 1, none⟩ (.slice ra rn rc)) = wF at hWE ⊢
                clear hWF g0 g1 z0 z1 xT hWB KB
                go_wp2
                go_roundw
                case rel => exact ⟨k + 1, _, _, by go_num, by omega, hWE, hIE⟩
                case measure => simp [intOf]; omega
              · have hv1 : ¬ (i : Int) < (nn : Int) - 1 := by omega
                have hv2 : (1 : Int) < (nth nl i : Int) / 2 ^ k := by
                  have ec : (nth nl i : Int) / 2 ^ k = ((nth nl i / 2 ^ k : Nat) : Int) := by simp
                  rw [ec]; omega
                clear hup HUP hu1
                obtain ⟨oa, on, oc, xO, sO, _⟩ := hW.one
                obtain ⟨sa, sn, sc, xS, sS, _⟩ := hW.two
                have bW := hW.bx
                have loa := sO.len
                have lsa := sS.len
                have KB : Hid (∀ W, Below wr.heap.size wr W → W.cell? ⟨b8, 0, none⟩ = some (.int .u32 (p : Int)) ∧ W.cell? ⟨b8, 1, none⟩ = some (.slice oa on oc) ∧ W.cell? ⟨b9, 0, none⟩ = some (.int .u32 (p : Int)) ∧ W.cell? ⟨b9, 1, none⟩ = some (.slice sa sn sc) ∧ W.cell? ⟨w.heap.size + 1 + 1, 0, none⟩ = some (.int .u32 (p : Int)) ∧ W.cell? ⟨w.heap.size + 1 + 1, 1, none⟩ = some (.slice ga gn gcap)) := fun W h => ⟨(xO.mono h).cell 0 _ rfl, (xO.mono h).cell 1 _ rfl, (xS.mono h).cell 0 _ rfl, (xS.mono h).cell 1 _ rfl, (bW.mono h).cell' 2 0 _ _ rfl rfl, (bW.mono h).cell' 2 1 _ _ rfl rfl⟩
                have hR0 := bdrew (Below.refl wr.heap.size wr)
                go_wp2
                refine wp_region_noPanic ?_
                refine wp_region_held2 5 [(1, 0), (1, 1), (1, 3), (0, 2), (0, 4), (3, 5)] (fun W => W.cell? ⟨b8, 0, none⟩ = some (.int .u32 (p : Int)) ∧ W.cell? ⟨b8, 1, none⟩ = some (.slice oa on oc) ∧ W.cell? ⟨b9, 0, none⟩ = some (.int .u32 (p : Int)) ∧ W.cell? ⟨b9, 1, none⟩ = some (.slice sa sn sc) ∧ W.cell? ⟨w.heap.size + 1 + 1, 0, none⟩ = some (.int .u32 (p : Int)) ∧ W.cell? ⟨w.heap.size + 1 + 1, 1, none⟩ = some (.slice ga gn gcap)) (fun _ => True) (by kernel_rfl) (by kernel_rfl) (fun _ _ _ _ _ h => h) (fun _ _ => trivial) (KB.out _ hR0) (fun _ => ?_)
                simp only [pick2, List.getElem?_cons_succ, List.getElem?_cons_zero]
                iterate 3
                  (refine held2_early (v := ?_) (by rfl) ?_ ?_
                   rotate_left
                   · intro W hSw; (try dsimp only at hSw); go_simp; (try with_reducible rfl)
                   try simp only [Act.put, List.setIfInBounds_toArray, List.set_cons_zero, List.set_cons_succ])
                refine held2_loud (fun K' hK => ?_)
                go_simp
                refine (ppoly_Mul p sa sn sc S sa sn sc S (p : Int) wr.drew (sS.mono hR0) (sS.mono hR0) hp0 hp (by omega) (by omega)).mono ?_
                rintro e wA ⟨ua, un, uc, rfl, hsA, hbA, _⟩
                have hRA := btrans hR0 hbA
                have lun := hsA.len
                have lML := mulL_len p S S
                refine hK.out _ _ (KB.out _ hRA) (fun _ => ?_)
                clear hK K'
                try simp only [Act.put, List.setIfInBounds_toArray, List.set_cons_zero, List.set_cons_succ]
                refine held2_loud (fun K' hK => ?_)
                go_simp
                refine (ppoly_mod p ua un uc (mulL p S S) ga gn gcap gl (p : Int) wA hsA (hg.mono (bW.mono hRA).below) hg0 HLEAD.out hp1 hp (by omega) (by omega)).mono ?_
                rintro e wB ⟨ra, rn, rc, rfl, hsB, hbB, pvB⟩
                have hRB := btrans hRA hbB
                have xT := xS.mono hRB
                have g0 := xT.cell 0 _ rfl
                have g1 := xT.cell 1 _ rfl
                have z0 := xT.frozen 0
                have z1 := xT.frozen 1
                refine hK.out _ _ (KB.out _ hRB) (fun _ => ?_)
                clear hK K'
                try simp only [Act.put, List.setIfInBounds_toArray, List.set_cons_zero, List.set_cons_succ]
                refine held2_store (fun K' hK => ?_)
                go_simp
                refine hK.out _ _ trivial (fun _ => ?_)
                clear hK K'
                try simp only [Act.put, List.setIfInBounds_toArray, List.set_cons_zero, List.set_cons_succ]
                refine held2_nil ?_
                refine NoPanic.normal ?_
                have hWB := hW.mono hRB
                have pvA := ((hW.mono hRA).fresh pvB)
                have hWE := hWB.set2 (S' := remL p (mulL p S S) gl) hsB pvA (by simp)
                have hIE := hI.sq hpr cf cg HGL.out HO.out
                generalize hWF : ((wB.setCell ⟨b9, 0, none⟩ (.int .u32 (p : Int))).setCell ⟨b9, 1, none⟩ (.slice ra rn rc)) = wF at hWE ⊢
                clear hWF g0 g1 z0 z1 xT hWB KB
                go_wp2
                go_roundw
                case rel => exact ⟨k + 1, _, _, by go_num, by omega, hWE, hIE⟩
                case measure => simp [intOf]; omega
            · have hv1 : ¬ (i : Int) < (nn : Int) - 1 := by omega
              have hv2 : ¬ (1 : Int) < (nth nl i : Int) / 2 ^ k := by
                have ec : (nth nl i : Int) / 2 ^ k = ((nth nl i / 2 ^ k : Nat) : Int) := by simp
                rw [ec]; omega
              have hz := Alg.hid (top_small nl hN.lt i k (by rw [HEN.out]; omega) (by omega))
              clear hup
              have hIE := hI.keep HO.out hz.out
              have HW := Alg.hid hW
              go_wp2
              go_roundw
              case rel => exact ⟨k + 1, _, _, by go_num, by omega, HW.out, hIE⟩
              case measure => simp [intOf]; omega
        · have ek : k = 32 := by omega
          subst ek
          have HW := Alg.hid hW
          go_wp2
          go_roundw
          case rel => exact ⟨i + 1, O, S, by go_num, by omega, HW.out, by rw [show 32 * (i + 1) = 32 * i + 32 by omega]; exact hI⟩
          case measure => simp [intOf]; omega
    · have ei : i = nn := by omega
      subst ei
      obtain ⟨oa, on, oc, xO, sO, oO, pO⟩ := hW.one
      have hres : O = powL p fl gl (valN nl) := by
        rw [hI.eo]
        have e1 := done_all nl hN.lt
        rw [HEN.out] at e1
        rw [e1]
      have HRES := Alg.hid hres
      clear hres
      have bW := hW.bx
      obtain ⟨d0, d1, d2, d3, d4, d5, d6, d7, d8, d9⟩ := K.out wr bW
      have g0 := xO.cell 0 _ rfl
      have g1 := xO.cell 1 _ rfl
      have oR := oO (w.heap.size + 1 + 1 + 1) (by simp)
      go_wp2
      (try simp only [Exit.inBlock, Exit.then])
      refine bodyPost_ret (v := .tuple #[.agg #[.int .u32 (p : Int), .slice oa on oc], .int .i64 0]) (by simp [results, Tryd.results106, go_sem, d6, d7]) rfl ?_
      rw [← HRES.out]
      exact ⟨oa, on, oc, rfl, sO.set2 oR _ _, Alg.Below.set2 bW.below (by omega) _ _, pO⟩
end Go.Proofs.YtcbhoedifgghhaaDoor
