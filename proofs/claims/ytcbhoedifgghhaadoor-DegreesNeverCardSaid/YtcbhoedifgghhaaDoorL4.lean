/- Contracts of layer 15: coprime, over, Free, SamePapers. -/
import Derived.Test.YtcbhoedifgghhaaDoorL3
import Derived.Test.YtcbhoedifgghhaaDoorW45
open Alg Go Go.RowKit
namespace Go.Proofs.YtcbhoedifgghhaaDoor
open Go.RowKit
theorem fld_pb (p : Nat) (W : World) (b1 b2 b3 : Option Addr) (m1 m2 m3 k1 k2 k3 : Nat) : (Instr.field 37 (.agg #[.int .u32 (p : Int), .slice b1 m1 k1, .int .u32 (p : Int), .slice b2 m2 k2, .int .u32 (p : Int), .slice b3 m3 k3]) 0).run Tryd.prog W = .ok (.agg #[.int .u32 (p : Int), .slice b1 m1 k1]) W := by first | kernel_rfl | rfl
set_option maxRecDepth 100000 in
set_option maxHeartbeats 600000 in
theorem deg_coprime (p : Nat) (fa : Option Addr) (fn fcap : Nat) (fl : List Nat) (ga : Option Addr) (gn gcap : Nat) (gl : List Nat) (w : World) (hf : Sl w fa fn fcap fl) (hg : Sl w ga gn gcap gl)
    (hpr : IsPr p) (hp : p < 4294967296) (hfn : fn ≤ 274877906944) (hgn : gn ≤ 274877906944) (cf : Canon p fl) (cg : Canon p gl) :
    Calls Tryd.prog 54 #[.agg #[.int .u32 (p : Int), .slice fa fn fcap], .agg #[.int .u32 (p : Int), .slice ga gn gcap]] w fun e w' => e = .returned (.bool (decide ((gcdL p fl gl).G.length = 1))) ∧ Below w.heap.size w w' := by
  have hbx := boxes2 w #[.int .u32 (p : Int), .slice fa fn fcap] #[.int .u32 (p : Int), .slice ga gn gcap] 25 25
  generalize hbv : decide ((gcdL p fl gl).G.length = 1) = bv
  go_enter Tryd.func54, Tryd.ntmps54
  go_wp2_with fail
  generalize hW0 : ((w.alloc (.cells #[.int .u32 (p : Int), .slice fa fn fcap] 25)).alloc (.cells #[.int .u32 (p : Int), .slice ga gn gcap] 25)) = W0 at hbx ⊢
  clear hW0
  refine (ppoly_Gcd p fa fn fcap fl ga gn gcap gl W0 (hf.mono hbx.below) (hg.mono hbx.below) hpr hp hfn hgn cf cg).mono ?_
  rintro e w1 ⟨a1, n1, c1, a2, n2, c2, a3, n3, c3, rfl, h3, hb1⟩
  have hx1 := hbx.mono hb1
  have hl := h3.g.len
  have hc := h3.g.le
  have hc2 := h3.g.cap
  rw [hl] at hbv
  clear hl h3
  have fld := fld_pb p w1 a1 a2 a3 n1 n2 n3 c1 c2 c3
  go_wp2_with fail
  refine (ppoly_Deg (p : Int) a1 n1 c1 w1 (by omega)).mono ?_
  rintro e w2 ⟨rfl, hb2⟩
  have hx2 := hx1.mono hb2
  by_cases h1 : n1 = 1
  · have h2 : ((n1 : Int) - 1 == 0) = true := by simp; omega
    rw [decide_eq_true h1] at hbv
    subst hbv
    clear h1
    go_wp2
    go_ret
    exact ⟨rfl, hx2.below⟩
  · have h2 : ((n1 : Int) - 1 == 0) = false := by simp; omega
    rw [decide_eq_false h1] at hbv
    subst hbv
    clear h1
    go_wp2
    go_ret
    exact ⟨rfl, hx2.below⟩
set_option maxHeartbeats 600000 in
theorem deg_over (p : Nat) (fa : Option Addr) (fn fcap : Nat) (fl : List Nat) (ga : Option Addr) (gn gcap : Nat) (gl : List Nat) (q : Int) (w : World) (hf : Sl w fa fn fcap fl) (hg : Sl w ga gn gcap gl)
    (hg0 : 0 < gn) (hlead : nth gl (gn - 1) ≠ 0) (hp0 : 1 < p) (hp : p < 4294967296) (hfn : fn ≤ 1099511627776) (hgn : gn ≤ 1099511627776) :
    Calls Tryd.prog 91 #[.agg #[.int .u32 (p : Int), .slice fa fn fcap], .agg #[.int .u32 q, .slice ga gn gcap]] w (RetP p (trim (divL p fl gl).1) [] w) := by
  have hbx := boxes3 w #[.int .u32 (p : Int), .slice fa fn fcap] #[.int .u32 q, .slice ga gn gcap] #[.int .u32 0, .slice none 0 0] 25 25 25
  go_enter Tryd.func91, Tryd.ntmps91
  go_wp2_with fail
  generalize hW0 : (((w.alloc (.cells #[.int .u32 (p : Int), .slice fa fn fcap] 25)).alloc (.cells #[.int .u32 q, .slice ga gn gcap] 25)).alloc (.cells #[.int .u32 0, .slice none 0 0] 25)) = W0 at hbx ⊢
  clear hW0
  have hsz : w.heap.size + 3 ≤ W0.heap.size := hbx.size
  refine (ppoly_DivMod p fa fn fcap fl ga gn gcap gl q W0 (hf.mono hbx.below) (hg.mono hbx.below) hg0 hlead hp0 hp hfn hgn).mono ?_
  rintro e w1 ⟨qa, qn, qc, ra, rn, rc, rfl, hq, hr, hb1, pq, pr⟩
  have hx1 := hbx.mono hb1
  have hz := (hx1.alloc_any (.cells #[.int .u32 (p : Int), .slice qa qn qc] 25)).alloc_any (.cells #[.int .u32 (p : Int), .slice ra rn rc] 25)
  have hqz : Sl ((w1.alloc (.cells #[.int .u32 (p : Int), .slice qa qn qc] 25)).alloc (.cells #[.int .u32 (p : Int), .slice ra rn rc] 25)) qa qn qc (trim (divL p fl gl).1) := (hq.alloc _).alloc _
  have r0 := hz.cell' 2 0 _ _ rfl rfl
  have r1 := hz.cell' 2 1 _ _ rfl rfl
  have f0 := hz.frozen' 2 0 (by simp)
  have f1 := hz.frozen' 2 1 (by simp)
  have oQ : Off qa qn (w.heap.size + 2) := pq.off0 (by omega)
  clear hq pr hr
  go_wp2
  (try simp only [Exit.inBlock, Exit.then])
  refine bodyPost_ret (v := .agg #[.int .u32 (p : Int), .slice qa qn qc]) (by simp [results, Tryd.results91, go_sem, r0, r1]) rfl ?_
  exact ⟨qa, qn, qc, rfl, hqz.set2 oQ _ _, Alg.Below.set2 hz.below (by omega) _ _, pq.mono (by omega)⟩
set_option maxRecDepth 100000 in
set_option maxHeartbeats 900000 in
theorem ref15_Free (p : Nat) (fa : Option Addr) (fn fcap : Nat) (fl : List Nat) (w : World) (hf : Sl w fa fn fcap fl)
    (hpr : IsPr p) (hp : p < 4294967296) (hfn : fn ≤ 1000000) (cf : Canon p fl) :
    Calls Tryd.prog 56 #[.agg #[.int .u32 (p : Int), .slice fa fn fcap]] w fun e w' => e = .returned (.bool (decide ((gcdL p fl (dfL p fl)).G.length = 1))) ∧ Below w.heap.size w w' := by
  haveI hne : NeZero p := ⟨by have := hpr.1; omega⟩
  have hp0 : 0 < p := by have := hpr.1; omega
  have CD := Alg.hid (dfL_ok (p := p) fl).2
  have LD := dfL_len (p := p) fl
  rw [hf.len] at LD
  have hbx := boxes1 w #[.int .u32 (p : Int), .slice fa fn fcap] 25
  generalize hbv : decide ((gcdL p fl (dfL p fl)).G.length = 1) = bv
  go_enter Tryd.func56, Tryd.ntmps56
  go_wp2
  generalize hW0 : w.alloc (.cells #[.int .u32 (p : Int), .slice fa fn fcap] 25) = W0 at hbx ⊢
  clear hW0
  have hxd := hbx.drew
  have K : Hid (∀ W, Boxes w W [#[.int .u32 (p : Int), .slice fa fn fcap]] → W.cell? ⟨w.heap.size, 0, none⟩ = some (.int .u32 (p : Int)) ∧ W.cell? ⟨w.heap.size, 1, none⟩ = some (.slice fa fn fcap)) := fun W h => ⟨h.cell' 0 0 _ _ rfl rfl, h.cell' 0 1 _ _ rfl rfl⟩
  refine wp_region_noPanic ?_
  refine wp_region_held2 7 [(1, 0), (1, 1), (0, 2), (0, 3), (1, 4), (0, 5), (1, 6), (3, 7)] (fun W => W.cell? ⟨w.heap.size, 0, none⟩ = some (.int .u32 (p : Int)) ∧ W.cell? ⟨w.heap.size, 1, none⟩ = some (.slice fa fn fcap)) (fun _ => True) (by kernel_rfl) (by kernel_rfl) (fun _ _ _ _ _ h => h) (fun _ _ => trivial) (K.out _ hxd) (fun _ => ?_)
  simp only [pick2, List.getElem?_cons_succ, List.getElem?_cons_zero]
  iterate 2
    (refine held2_early (v := ?_) (by rfl) ?_ ?_
     rotate_left
     · intro W hSw; (try dsimp only at hSw); go_simp; (try with_reducible rfl)
     try simp only [Act.put, List.setIfInBounds_toArray, List.set_cons_zero, List.set_cons_succ])
  refine held2_loud (fun K' hK => ?_)
  go_simp
  refine (ref_Diff p fa fn fcap fl _ (hf.mono hxd.below) hp0 hp (by omega)).mono ?_
  rintro e w1 ⟨da, dn, dc, rfl, hsd, hb1, _⟩
  have hx1 := hxd.mono hb1
  have ld := hsd.len
  refine hK.out _ _ (K.out _ hx1) (fun _ => ?_)
  clear hK K'
  try simp only [Act.put, List.setIfInBounds_toArray, List.set_cons_zero, List.set_cons_succ]
  refine held2_loud (fun K' hK => ?_)
  go_simp
  refine (ref_Gcd p fa fn fcap fl da dn dc (dfL p fl) w1 (hf.mono hx1.below) hsd hpr hp (by omega) (by omega) cf CD.out).mono ?_
  rintro e w2 ⟨a1, n1, c1, a2, n2, c2, a3, n3, c3, rfl, h3, hb2⟩
  have hx2 := hx1.mono hb2
  have hl := h3.g.len
  have hc := h3.g.le
  have hc2 := h3.g.cap
  rw [hl] at hbv
  clear hl h3
  have fld := fun W => fld_pb p W a1 a2 a3 n1 n2 n3 c1 c2 c3
  refine hK.out _ _ (K.out _ hx2) (fun _ => ?_)
  clear hK K'
  try simp only [Act.put, List.setIfInBounds_toArray, List.set_cons_zero, List.set_cons_succ]
  iterate 1
    (refine held2_early (v := ?_) (by rfl) ?_ ?_
     rotate_left
     · intro W hSw; (try dsimp only at hSw); go_simp; (try with_reducible rfl)
     try simp only [Act.put, List.setIfInBounds_toArray, List.set_cons_zero, List.set_cons_succ])
  refine held2_loud (fun K' hK => ?_)
  go_simp
  refine (ref_Deg (p : Int) a1 n1 c1 w2 (by omega)).mono ?_
  rintro e w3 ⟨rfl, hb3⟩
  have hx3 := hx2.mono hb3
  refine hK.out _ _ (K.out _ hx3) (fun _ => ?_)
  clear hK K'
  try simp only [Act.put, List.setIfInBounds_toArray, List.set_cons_zero, List.set_cons_succ]
  iterate 1
    (refine held2_early (v := ?_) (by rfl) ?_ ?_
     rotate_left
     · intro W hSw; (try dsimp only at hSw); go_simp; (try with_reducible rfl)
     try simp only [Act.put, List.setIfInBounds_toArray, List.set_cons_zero, List.set_cons_succ])
  refine held2_store (fun K' hK => ?_)
  go_simp
  refine hK.out _ _ trivial (fun _ => ?_)
  clear hK K'
  try simp only [Act.put, List.setIfInBounds_toArray, List.set_cons_zero, List.set_cons_succ]
  refine held2_nil ?_
  refine NoPanic.normal ?_
  by_cases h1 : n1 = 1
  · have h2 : ((n1 : Int) - 1 == 0) = true := by simp; omega
    rw [decide_eq_true h1] at hbv
    subst hbv
    clear h1
    go_wp2
    go_ret
    exact ⟨by (show Ending.returned (Value.bool ((n1 : Int) - 1 == 0)) = _); rw [h2], hx3.below⟩
  · have h2 : ((n1 : Int) - 1 == 0) = false := by simp; omega
    rw [decide_eq_false h1] at hbv
    subst hbv
    clear h1
    go_wp2
    go_ret
    exact ⟨by (show Ending.returned (Value.bool ((n1 : Int) - 1 == 0)) = _); rw [h2], hx3.below⟩
end Go.Proofs.YtcbhoedifgghhaaDoor
