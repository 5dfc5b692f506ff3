/- Contract of the reference'sProve. -/
import Derived.Test.YtcbhoedifgghhaaDoorG2
import Derived.Test.YtcbhoedifgghhaaDoorL6
open Alg Go Go.RowKit
namespace Go.Proofs.YtcbhoedifgghhaaDoor
open Go.RowKit
theorem Tryd.infoPBR : (Tryd.prog.info? 37).map (fun i => (i.zero, i.size, i.bytes)) = some (some (.agg #[.int .u32 0, .slice none 0 0, .int .u32 0, .slice none 0 0, .int .u32 0, .slice none 0 0]), 6, 96) := by kernel_rfl
set_option maxRecDepth 100000 in
set_option maxHeartbeats 800000 in
theorem ref15_Prove (p : Nat) (fa : Option Addr) (fn fcap : Nat) (fl : List Nat) (w : World) (hf : Sl w fa fn fcap fl) (hpr : IsPr p) (hp : p < 4294967296) (cf : Canon p fl) (hfn : fn ≤ 900) :
    Calls Tryd.prog 24 #[.agg #[.int .u32 (p : Int), .slice fa fn fcap]] w (RetPv p fl w) := by
  haveI hne : NeZero p := ⟨by have := hpr.1; omega⟩
  obtain ⟨ib, hib, hb0, hb1, hb2⟩ := info_parts Tryd.infoPBR
  have HI := Alg.hid hib
  have HQ0 := Alg.hid hb0
  have HQ1 := Alg.hid hb1
  have HQ2 := Alg.hid hb2
  clear hib hb0 hb1 hb2
  have hbx := boxes2 w #[.int .u32 (p : Int), .slice fa fn fcap] #[.int .u32 0, .slice none 0 0, .slice none 0 0] 25 42
  have lf := hf.len
  go_enter Tryd.func24, Tryd.ntmps24
  go_upto_region 1 with fail
  generalize hW0 : ((w.alloc (.cells #[.int .u32 (p : Int), .slice fa fn fcap] 25)).alloc (.cells #[.int .u32 0, .slice none 0 0, .slice none 0 0] 42)) = W0 at hbx ⊢
  clear hW0
  have K : Hid (∀ W, Boxes w W [#[.int .u32 (p : Int), .slice fa fn fcap], #[.int .u32 0, .slice none 0 0, .slice none 0 0]] → W.cell? ⟨w.heap.size, 0, none⟩ = some (.int .u32 (p : Int)) ∧ W.cell? ⟨w.heap.size, 1, none⟩ = some (.slice fa fn fcap)) := fun W h => ⟨h.cell' 0 0 _ _ rfl rfl, h.cell' 0 1 _ _ rfl rfl⟩
  obtain ⟨d0, d1⟩ := K.out W0 hbx
  go_wp2_with fail
  refine (ref_Deg (p : Int) fa fn fcap W0 (by omega)).mono ?_
  rintro e w1 ⟨rfl, hb1⟩
  have hx1 := hbx.mono hb1
  clear d0 d1 hbx hb1
  obtain ⟨d0, d1⟩ := K.out w1 hx1
  go_wp2_with fail
  refine (ref15_IsMonic (p : Int) fa fn fcap fl w1 (hf.mono hx1.below)).mono ?_
  rintro e w2 ⟨rfl, hb2⟩
  have hx2 := hx1.mono hb2
  clear d0 d1 hx1 hb2
  obtain ⟨d0, d1⟩ := K.out w2 hx2
  cases hm : monB fl with
  | false =>
    have c0 := hx2.cell' 1 0 _ _ rfl rfl
    have c1 := hx2.cell' 1 1 _ _ rfl rfl
    have c2 := hx2.cell' 1 2 _ _ rfl rfl
    have f0 := hx2.frozen' 1 0 (by simp)
    have f1 := hx2.frozen' 1 1 (by simp)
    have f2 := hx2.frozen' 1 2 (by simp)
    go_wp2
    (try simp only [Exit.inBlock, Exit.then])
    refine bodyPost_ret (v := .tuple #[.agg #[.int .u32 0, .slice none 0 0, .slice none 0 0], .int .i64 1]) (by simp [results, Tryd.results24, go_sem, c0, c1, c2]) rfl ?_
    have hE : proveE p fl = 1 := by unfold proveE; rw [if_neg (by rw [hm]; simp)]
    exact Or.inr ⟨by rw [hE]; decide, by rw [hE]; exact ⟨_, _, _, _, _, _, rfl, Sl.of_nil _ _ _ (by omega), SlB.nil _, (((hx2.below.setCell (p := ⟨w.heap.size + 1, 0, none⟩) (by show w.heap.size ≤ w.heap.size + 1; omega) _).setCell (p := ⟨w.heap.size + 1, 1, none⟩) (by show w.heap.size ≤ w.heap.size + 1; omega) _).setCell (p := ⟨w.heap.size + 1, 2, none⟩) (by show w.heap.size ≤ w.heap.size + 1; omega) _)⟩⟩
  | true =>
  by_cases h1 : fn < 2
  · have h1' : (fn : Int) - 1 < 1 := by omega
    have c0 := hx2.cell' 1 0 _ _ rfl rfl
    have c1 := hx2.cell' 1 1 _ _ rfl rfl
    have c2 := hx2.cell' 1 2 _ _ rfl rfl
    have f0 := hx2.frozen' 1 0 (by simp)
    have f1 := hx2.frozen' 1 1 (by simp)
    have f2 := hx2.frozen' 1 2 (by simp)
    go_wp2
    (try simp only [Exit.inBlock, Exit.then])
    refine bodyPost_ret (v := .tuple #[.agg #[.int .u32 0, .slice none 0 0, .slice none 0 0], .int .i64 1]) (by simp [results, Tryd.results24, go_sem, c0, c1, c2]) rfl ?_
    have hE : proveE p fl = 1 := by unfold proveE; rw [if_neg (by omega)]
    exact Or.inr ⟨by rw [hE]; decide, by rw [hE]; exact ⟨_, _, _, _, _, _, rfl, Sl.of_nil _ _ _ (by omega), SlB.nil _, (((hx2.below.setCell (p := ⟨w.heap.size + 1, 0, none⟩) (by show w.heap.size ≤ w.heap.size + 1; omega) _).setCell (p := ⟨w.heap.size + 1, 1, none⟩) (by show w.heap.size ≤ w.heap.size + 1; omega) _).setCell (p := ⟨w.heap.size + 1, 2, none⟩) (by show w.heap.size ≤ w.heap.size + 1; omega) _)⟩⟩
  have h1' : ¬ (fn : Int) - 1 < 1 := by omega
  obtain ⟨N, hN⟩ : ∃ N, fn = N + 1 := ⟨fn - 1, by omega⟩
  subst hN
  have eN : ((N + 1 : Nat) : Int) - 1 = (N : Int) := by omega
  have lf1 : fl.length - 1 = N := by omega
  have HLF := Alg.hid lf1
  have hfl : fl ≠ [] := fun e => by rw [e] at lf; simp at lf
  have HM : Hid (monB fl = true ∧ 2 ≤ fl.length) := ⟨hm, by omega⟩
  have HA := Alg.hid (fun k => (apL_md hpr cf hfl k).canon)
  have HAL := Alg.hid (fun k => (apL_md hpr cf hfl k).len)
  have HPW : Hid (((prl N).map fun q => PB.ofT p (gcdL p (apL p fl (N / q)) fl)) = proveW p fl) := by show _ = _; rw [← lf1]; rfl
  have HGN := Alg.hid (fun k => gcdL_lens p (apL p fl k) fl)
  have HG0 : Hid (∀ k, (gcdL p (apL p fl k) fl).G ≠ []) := fun k e0 => by
    have hd := (gcdL_ok hpr (apL p fl k) fl (HA.out k) cf).2.2.1
    rw [e0, pol_nil] at hd
    exact hfl ((pol_eq_zero cf).1 (Poly.Dv.of_zero hd))
  rw [eN]
  clear hm lf1 eN hfl
  go_wp2_with fail
  have xO0 := Box.new w2 #[.int .u32 (p : Int), .slice fa (N + 1) fcap, .slice none 0 0] 42
  have hx3 := hx2.alloc_any (.cells #[.int .u32 (p : Int), .slice fa (N + 1) fcap, .slice none 0 0] 42)
  have s2 : w.heap.size + 2 ≤ w2.heap.size := hx2.size
  obtain ⟨bO, hbO⟩ : ∃ b, b = w2.heap.size := ⟨_, rfl⟩
  have s3 : (w2.alloc (.cells #[.int .u32 (p : Int), .slice fa (N + 1) fcap, .slice none 0 0] 42)).heap.size = bO + 1 := by rw [World.size_alloc, hbO]
  rw [← hbO] at xO0 s2 ⊢
  generalize hW3 : w2.alloc (.cells #[.int .u32 (p : Int), .slice fa (N + 1) fcap, .slice none 0 0] 42) = w3 at xO0 hx3 s3 ⊢
  clear hW3 hbO hx2 d0 d1
  refine (ref15_primes N w3 (by omega) (by omega)).mono ?_
  rintro e w4 ⟨la, ln, lc, rfl, hs, hb4, hprov⟩
  have hx4 := hx3.mono hb4
  have xO := xO0.mono hb4
  have hln := hs.len
  have hnN := prl_len N
  have hle := hs.le
  have hcap := hs.cap
  have s4 := hb4.size
  have HS := Alg.hid hs
  have hx4s : w.heap.size + 2 ≤ w4.heap.size := by omega
  have HS0 := HS
  clear hs hb4 xO0 hx3
  go_wp2
  go_loopw [7] (fun v wr => ∃ j : Nat, ∃ vv : Value, v = .int .i64 j ∧ j ≤ ln ∧ Hid (Boxes w wr [#[.int .u32 (p : Int), .slice fa (N + 1) fcap], #[.int .u32 0, .slice none 0 0, .slice none 0 0]]) ∧ Hid (Box wr bO #[.int .u32 (p : Int), .slice fa (N + 1) fcap, vv]) ∧ Hid (GrK kPB wr 37 w4.heap.size [bO, w.heap.size + 1] vv j (((prl N).take j).map fun q => PB.ofT p (gcdL p (apL p fl (N / q)) fl))) ∧ Hid (SlF fint wr la ln lc (prl N)) ∧ w4.heap.size ≤ wr.heap.size) (fun v _ => ln - (intOf v).toNat)
  case atStart => exact ⟨0, .slice none 0 0, rfl, Nat.zero_le _, hx4, xO, by rw [List.take_zero]; exact GrK.nil _ _ _ _ _, HS.out, Nat.le_refl _⟩
  case round =>
    clear xO HS hx4
    obtain ⟨j, vv, rfl, hj, hx, xO, hg, hS, hsz⟩ := hrel
    obtain ⟨d0, d1⟩ := K.out wr hx.out
    have o0 := xO.out.cell 0 _ rfl
    have o1 := xO.out.cell 1 _ rfl
    have o2 := xO.out.cell 2 _ rfl
    by_cases hjn : ¬ j < ln
    · obtain rfl : j = ln := by omega
      have hj' : ¬ (j : Int) < (j : Int) := by omega
      have HG := hg.out
      rw [List.take_of_length_le (by omega), HPW.out] at HG
      obtain ⟨va, vc, rfl, hsl, _⟩ := HG.sl
      have HG := Alg.hid HG
      have hslb := hsl.slB
      have hvl := hsl.len
      go_wp2_with fail
      refine (ref15_Holds p fa (N + 1) fcap fl va j vc (proveW p fl) wr (hf.mono hx.out.below) hslb hp (by omega) (by omega) (proveW_few (by omega) (fun k => by have := HAL.out k; omega))).mono ?_
      rintro e w5 ⟨rfl, hb5⟩
      have hx5 := hx.out.mono hb5
      have xO5 := xO.out.mono hb5
      clear o0 o1 o2 d0 d1
      cases hH : holdsIB p fl (proveW p fl) with
      | false =>
        have c0 := hx5.cell' 1 0 _ _ rfl rfl
        have c1 := hx5.cell' 1 1 _ _ rfl rfl
        have c2 := hx5.cell' 1 2 _ _ rfl rfl
        have f0 := hx5.frozen' 1 0 (by simp)
        have f1 := hx5.frozen' 1 1 (by simp)
        have f2 := hx5.frozen' 1 2 (by simp)
        go_wp2
        (try simp only [Exit.inBlock, Exit.then])
        refine bodyPost_ret (v := .tuple #[.agg #[.int .u32 0, .slice none 0 0, .slice none 0 0], .int .i64 5]) (by simp [results, Tryd.results24, go_sem, c0, c1, c2]) rfl ?_
        have hE : proveE p fl = 5 := by unfold proveE; rw [if_pos HM.out, if_neg (by rw [hH]; simp)]
        exact Or.inr ⟨by rw [hE]; decide, by rw [hE]; exact ⟨_, _, _, _, _, _, rfl, Sl.of_nil _ _ _ (by omega), SlB.nil _, (((hx5.below.setCell (p := ⟨w.heap.size + 1, 0, none⟩) (by show w.heap.size ≤ w.heap.size + 1; omega) _).setCell (p := ⟨w.heap.size + 1, 1, none⟩) (by show w.heap.size ≤ w.heap.size + 1; omega) _).setCell (p := ⟨w.heap.size + 1, 2, none⟩) (by show w.heap.size ≤ w.heap.size + 1; omega) _)⟩⟩
      | true =>
        have o0 := xO5.cell 0 _ rfl
        have o1 := xO5.cell 1 _ rfl
        have o2 := xO5.cell 2 _ rfl
        have c0 := hx5.cell' 1 0 _ _ rfl rfl
        have c1 := hx5.cell' 1 1 _ _ rfl rfl
        have c2 := hx5.cell' 1 2 _ _ rfl rfl
        have f0 := hx5.frozen' 1 0 (by simp)
        have f1 := hx5.frozen' 1 1 (by simp)
        have f2 := hx5.frozen' 1 2 (by simp)
        have HG5 := HG.out.mono hb5
        go_wp2
        (try simp only [Exit.inBlock, Exit.then])
        refine bodyPost_ret (v := .tuple #[.agg #[.int .u32 (p : Int), .slice fa (N + 1) fcap, .slice va j vc], .int .i64 0]) (by simp [results, Tryd.results24, go_sem, c0, c1, c2]) rfl ?_
        have hE : proveE p fl = 0 := by unfold proveE; rw [if_pos HM.out, if_pos hH]
        have HG6 := ((HG5.set (r := w.heap.size + 1) (by simp) (by omega) 0 (.int .u32 (p : Int))).set (r := w.heap.size + 1) (by simp) (by omega) 1 (.slice fa (N + 1) fcap)).set (r := w.heap.size + 1) (by simp) (by omega) 2 (.slice va j vc)
        obtain ⟨va', vc', ee, hsl6, _⟩ := HG6.sl
        obtain ⟨rfl, _, rfl⟩ : va = va' ∧ True ∧ vc = vc' := by simpa using ee
        have of := hf.off (r := w.heap.size + 1) (by omega)
        exact Or.inl ⟨hE, _, _, _, _, _, _, rfl, (((hf.mono hx5.below).setCell of _).setCell of _).setCell of _, hsl6.slB, ((hx5.below.setCell (p := ⟨w.heap.size + 1, 0, none⟩) (by show w.heap.size ≤ w.heap.size + 1; omega) _).setCell (p := ⟨w.heap.size + 1, 1, none⟩) (by show w.heap.size ≤ w.heap.size + 1; omega) _).setCell (p := ⟨w.heap.size + 1, 2, none⟩) (by show w.heap.size ≤ w.heap.size + 1; omega) _⟩
    have hjn : j < ln := by omega
    have hj' : (j : Int) < (ln : Int) := by omega
    obtain ⟨lb, rfl, hlb⟩ : ∃ lb, la = some ⟨lb, 0, none⟩ ∧ bO < lb ∧ lb < w4.heap.size := by
      rcases hprov with h | ⟨g, h2, h3⟩
      · omega
      · refine ⟨g, h2, by omega, ?_⟩
        subst h2
        have h4 := HS0.out.nthCell hjn
        exact cell_lt h4
    have hcell0 := hS.out.nthCell hjn
    obtain ⟨q, hq⟩ : ∃ q, q = nth (prl N) j := ⟨_, rfl⟩
    obtain ⟨k, hk⟩ : ∃ k, k = N / q := ⟨_, rfl⟩
    have hkN : k ≤ N := by rw [hk]; exact Nat.div_le_self _ _
    have HTK : Hid (((prl N).take (j + 1)).map (fun q => PB.ofT p (gcdL p (apL p fl (N / q)) fl)) = (((prl N).take j).map fun q => PB.ofT p (gcdL p (apL p fl (N / q)) fl)) ++ [PB.ofT p (gcdL p (apL p fl k) fl)]) := by
      show _ = _
      rw [hk, hq]; exact take_map_succ' (fun q => PB.ofT p (gcdL p (apL p fl (N / q)) fl)) _ _ (by omega)
    have ewk : IntKind.i64.wrap (k : Int) = (k : Int) := by rw [IntKind.wrap_i64]; omega
    rw [← hq] at hcell0
    have hpq := (mem_prl (n := N) (by omega) q).1 (by rw [hq]; exact nth_memL (by omega))
    have hq2 := hpq.1.1
    have hqz : ¬ (q : Int) = 0 := by omega
    have hqn : ¬ q = 0 := by omega
    have hqle := Nat.le_of_dvd (by omega) hpq.2
    have ek : (N : Int) / (q : Int) = (k : Int) := by rw [hk]; simp
    have hcell : wr.cell? ⟨lb, 0 + j, none⟩ = some (.int .i64 (q : Int)) := hcell0
    rw [Nat.zero_add] at hcell
    clear hcell0 hk hq hpq
    have hcell' : wr.drew.cell? ⟨lb, j, none⟩ = some (.int .i64 (q : Int)) := hcell
    have HC' := Alg.hid hcell'
    clear hcell'
    have KR : Hid (∀ W, Below wr.drew.heap.size wr.drew W → W.cell? ⟨w.heap.size, 0, none⟩ = some (.int .u32 (p : Int)) ∧ W.cell? ⟨w.heap.size, 1, none⟩ = some (.slice fa (N + 1) fcap) ∧ W.cell? ⟨bO, 0, none⟩ = some (.int .u32 (p : Int)) ∧ W.cell? ⟨bO, 1, none⟩ = some (.slice fa (N + 1) fcap) ∧ W.cell? ⟨bO, 2, none⟩ = some (vv) ∧ W.cell? ⟨lb, j, none⟩ = some (.int .i64 (q : Int))) := fun W h => ⟨(hx.out.drew.mono h).cell' 0 0 _ _ rfl rfl, (hx.out.drew.mono h).cell' 0 1 _ _ rfl rfl, (xO.out.drew.mono h).cell 0 _ rfl, (xO.out.drew.mono h).cell 1 _ rfl, (xO.out.drew.mono h).cell 2 _ rfl, ((btrans (bdrew (Below.refl _ wr)) h).cell (p := ⟨lb, j, none⟩) (cell_lt hcell)).trans hcell⟩
    have hR0 : Below wr.drew.heap.size wr.drew wr.drew := Below.refl _ _
    have t1 : j + 1 ≤ maxLen := by unfold maxLen; omega
    have t2 : (j + 1) * 96 ≤ 140737488355328 := by omega
    have hv := hg.out.row
    obtain ⟨xs, hown, hgrow⟩ := (hg.out.mono (bdrew (Below.refl _ wr))).grow
    have HGR := Alg.hid hgrow
    have HOWN := Alg.hid hown
    clear hgrow hown
    go_upto_region 9 with fail
    clear o0 o1 o2 d0 d1 hcell
    refine wp_region_noPanic ?_
    refine wp_region_held2 15 [(1, 0), (1, 1), (1, 2), (1, 3), (1, 4), (1, 5), (1, 6), (1, 7), (1, 8), (1, 10), (0, 9), (0, 11), (0, 12), (0, 13), (1, 14), (3, 15)] (fun W => W.cell? ⟨w.heap.size, 0, none⟩ = some (.int .u32 (p : Int)) ∧ W.cell? ⟨w.heap.size, 1, none⟩ = some (.slice fa (N + 1) fcap) ∧ W.cell? ⟨bO, 0, none⟩ = some (.int .u32 (p : Int)) ∧ W.cell? ⟨bO, 1, none⟩ = some (.slice fa (N + 1) fcap) ∧ W.cell? ⟨bO, 2, none⟩ = some (vv) ∧ W.cell? ⟨lb, j, none⟩ = some (.int .i64 (q : Int))) (fun _ => True) (by kernel_rfl) (by kernel_rfl) (fun _ _ _ _ _ h => h) (fun _ _ => trivial) (KR.out _ hR0) (fun _ => ?_)
    simp only [pick2, List.getElem?_cons_succ, List.getElem?_cons_zero]
    iterate 10
      (refine held2_early (v := ?_) (by rfl) ?_ ?_
       rotate_left
       · intro W hSw; (try dsimp only at hSw); go_simp; (try with_reducible rfl)
       try simp only [Act.put, List.setIfInBounds_toArray, List.set_cons_zero, List.set_cons_succ])
    refine held2_loud (fun K' hK => ?_)
    go_simp
    refine (ref15_apart p fa (N + 1) fcap fl k _ ((hf.mono hx.out.below).drew) hpr hp cf (by omega) (by omega) (by omega)).mono ?_
    rintro e v1 ⟨ra, rn, rc, rfl, hsr, hc1, _⟩
    have r1 := btrans hR0 hc1
    have lr := hsr.len
    have lr2 := HAL.out k
    refine hK.out _ _ (KR.out _ r1) (fun _ => ?_)
    clear hK K'
    try simp only [Act.put, List.setIfInBounds_toArray, List.set_cons_zero, List.set_cons_succ]
    refine held2_loud (fun K' hK => ?_)
    go_simp
    refine (ref_GcdP p ra rn rc (apL p fl k) fa (N + 1) fcap fl v1 hsr (((hf.mono hx.out.below).drew).mono r1) hpr hp (by omega) (by omega) (HA.out k) cf).mono ?_
    rintro e v2 ⟨a1, n1, c1, a2, n2, c2, a3, n3, c3, rfl, h3, hc2, hpv⟩
    have r2 := btrans r1 hc2
    obtain ⟨pv1, pv2, pv3⟩ := hpv (HG0.out k)
    have sz1 : wr.heap.size ≤ v1.heap.size := r1.size
    have sz2 := hc2.size
    have hRlt : ∀ r ∈ vv.ownBlock.toList ++ [bO, w.heap.size + 1], r < v1.heap.size := by
      intro r hr
      rcases List.mem_append.1 hr with h4 | h4
      · have := (hv r (by simpa using h4)).2
        omega
      · have hl := xO.out.lt
        simp only [List.mem_cons, List.not_mem_nil, or_false] at h4
        omega
    have hok : kPB.ok v2 (vv.ownBlock.toList ++ [bO, w.heap.size + 1]) [.int .u32 (p : Int), .slice a1 n1 c1, .int .u32 (p : Int), .slice a2 n2 c2, .int .u32 (p : Int), .slice a3 n3 c3] (PB.ofT p (gcdL p (apL p fl k) fl)) := ⟨a1, n1, c1, a2, n2, c2, a3, n3, c3, rfl, ⟨h3.g, h3.u, h3.v⟩, Offs.fresh pv1 hRlt, Offs.fresh pv2 hRlt, Offs.fresh pv3 hRlt⟩
    have Q6 := Alg.hid (kPB.cells hok)
    have HOK := Alg.hid hok
    have HOWN2 := Alg.hid (HOWN.out.kept ⟨r2.os, r2.tape, r2.output, r2.size, fun k hk _ => r2.block k hk⟩ (row := none) (by cases vv.ownBlock <;> simp))
    clear hok h3 hpv pv1 pv2 pv3
    refine hK.out _ _ (KR.out _ r2) (fun _ => ?_)
    clear hK K'
    try simp only [Act.put, List.setIfInBounds_toArray, List.set_cons_zero, List.set_cons_succ]
    refine held2_loud (fun K' hK => ?_)
    go_simp
    have r3 : Below wr.drew.heap.size wr.drew (v2.alloc (.cells #[.int .u32 (p : Int), .slice a1 n1 c1, .int .u32 (p : Int), .slice a2 n2 c2, .int .u32 (p : Int), .slice a3 n3 c3] 37)) := r2.alloc r2.size _
    refine hK.out _ _ (KR.out _ r3) (fun _ => ?_)
    clear hK K'
    try simp only [Act.put, List.setIfInBounds_toArray, List.set_cons_zero, List.set_cons_succ]
    refine held2_loud (fun K' hK => ?_)
    refine step_append_lies _ (by rfl) _ _ 40 (by rfl) w4.heap.size 37 ib _ 6 96 Tryd.underlying40 HI.out HQ0.out HQ1.out HQ2.out rfl (by decide) _ j xs (by rfl) (HOWN2.out.alloc _) ⟨v2.heap.size, 0, none⟩ 1 1 [.int .u32 (p : Int), .slice a1 n1 c1, .int .u32 (p : Int), .slice a2 n2 c2, .int .u32 (p : Int), .slice a3 n3 c3] (by rfl) (by rfl) news_six Q6.out Nat.one_pos t1 t2 (Nat.le_trans (Nat.le_trans hsz (Nat.le_trans sz1 sz2)) (size_le_alloc _ _)) (v2.heap.size + 1) (World.size_alloc _ _) ?_
    intro gg cc w9 hown9 hgrow9 hat9 hlt9
    have hG9 := Alg.hid (HGR.out v2 w9 [.int .u32 (p : Int), .slice a1 n1 c1, .int .u32 (p : Int), .slice a2 n2 c2, .int .u32 (p : Int), .slice a3 n3 c3] _ (.cells #[.int .u32 (p : Int), .slice a1 n1 c1, .int .u32 (p : Int), .slice a2 n2 c2, .int .u32 (p : Int), .slice a3 n3 c3] 37) gg cc r2 HOK.out hown9 hgrow9 hat9)
    have hvO : vv.ownBlock ≠ some bO := fun e => by have := (hv bO e).1; omega
    have xO9 := ((xO.out.drew.mono r2).alloc (.cells #[.int .u32 (p : Int), .slice a1 n1 c1, .int .u32 (p : Int), .slice a2 n2 c2, .int .u32 (p : Int), .slice a3 n3 c3] 37)).grown hgrow9 hvO
    have hx9 := ((hx.out.drew.mono r2).alloc_any (.cells #[.int .u32 (p : Int), .slice a1 n1 c1, .int .u32 (p : Int), .slice a2 n2 c2, .int .u32 (p : Int), .slice a3 n3 c3] 37)).grown hgrow9 (fun q e => by have := (hv q e).1; have := hx4s; simp only [List.length_cons, List.length_nil]; omega)
    have hS9 := Alg.hid (((hS.out.mono (btrans (bdrew (Below.refl _ wr)) r3)).grown hgrow9 (fun e => by have := (hv lb e).1; omega)).setCell (r := bO) (by omega) 2 (.slice (some ⟨gg, 0, none⟩) (j + 1) cc))
    have k9 : w9.cell? ⟨w.heap.size, 0, none⟩ = some (.int .u32 (p : Int)) ∧ w9.cell? ⟨w.heap.size, 1, none⟩ = some (.slice fa (N + 1) fcap) ∧ w9.cell? ⟨bO, 0, none⟩ = some (.int .u32 (p : Int)) ∧ w9.cell? ⟨bO, 1, none⟩ = some (.slice fa (N + 1) fcap) ∧ w9.cell? ⟨bO, 2, none⟩ = some (vv) := ⟨hx9.cell' 0 0 _ _ rfl rfl, hx9.cell' 0 1 _ _ rfl rfl, xO9.cell 0 _ rfl, xO9.cell 1 _ rfl, xO9.cell 2 _ rfl⟩
    have z2 := xO9.frozen 2
    have sz9 := hgrow9.size
    rw [World.size_alloc] at sz9
    have k9 := (⟨k9.1, k9.2.1, k9.2.2.1, k9.2.2.2.1, k9.2.2.2.2, hgrow9.cell (((r3.cell (p := ⟨lb, j, none⟩) (by show lb < wr.heap.size; omega)).trans HC'.out)) (fun e => by have := (hv lb e.symm).1; omega)⟩ : w9.cell? ⟨w.heap.size, 0, none⟩ = some (.int .u32 (p : Int)) ∧ w9.cell? ⟨w.heap.size, 1, none⟩ = some (.slice fa (N + 1) fcap) ∧ w9.cell? ⟨bO, 0, none⟩ = some (.int .u32 (p : Int)) ∧ w9.cell? ⟨bO, 1, none⟩ = some (.slice fa (N + 1) fcap) ∧ w9.cell? ⟨bO, 2, none⟩ = some (vv) ∧ w9.cell? ⟨lb, j, none⟩ = some (.int .i64 (q : Int)))
    refine hK.out _ _ (k9) (fun _ => ?_)
    clear hK K'
    try simp only [Act.put, List.setIfInBounds_toArray, List.set_cons_zero, List.set_cons_succ]
    iterate 1
      (refine held2_early (v := ?_) (by rfl) ?_ ?_
       rotate_left
       · intro W hSw; (try dsimp only at hSw); go_simp; (try with_reducible rfl)
       try simp only [Act.put, List.setIfInBounds_toArray, List.set_cons_zero, List.set_cons_succ])
    refine held2_store (fun K' hK => ?_)
    go_simp
    refine hK.out _ _ trivial (fun _ => ?_)
    clear hK K'
    try simp only [Act.put, List.setIfInBounds_toArray, List.set_cons_zero, List.set_cons_succ]
    refine held2_nil ?_
    refine NoPanic.normal ?_
    have hx10 := Alg.hid (hx9.setCell (g := bO) (i := 2) (by show w.heap.size + 2 ≤ bO; omega) (.slice (some ⟨gg, 0, none⟩) (j + 1) cc))
    have xO10 := Alg.hid (xO9.third (.slice (some ⟨gg, 0, none⟩) (j + 1) cc))
    have hG10 := hG9.out.set (r := bO) (by simp) (by omega) 2 (.slice (some ⟨gg, 0, none⟩) (j + 1) cc)
    rw [← HTK.out] at hG10
    have HG10 := Alg.hid hG10
    have sz10 : w4.heap.size ≤ (w9.setCell ⟨bO, 2, none⟩ (.slice (some ⟨gg, 0, none⟩) (j + 1) cc)).heap.size := by
      have : (w9.setCell ⟨bO, 2, none⟩ (.slice (some ⟨gg, 0, none⟩) (j + 1) cc)).heap.size = w9.heap.size := by simp only [World.setCell, Array.size_modify]
      omega
    clear hG10 xO9 hx9 hG9 k9 z2 hown9 hgrow9 hat9
    go_wp2
    go_roundw
    case rel => exact ⟨j + 1, _, by go_num, by omega, hx10, xO10, HG10, hS9, sz10⟩
    case measure => simp [intOf]; omega
end Go.Proofs.YtcbhoedifgghhaaDoor
