/- Contract of the reference's Holds. -/
import Derived.Test.YtcbhoedifgghhaaDoorB11
import Derived.Test.YtcbhoedifgghhaaDoorL2
import Derived.Test.YtcbhoedifgghhaaDoorW45
open Alg Go Go.RowKit
namespace Go.Proofs.YtcbhoedifgghhaaDoor
open Go.RowKit
set_option maxRecDepth 100000 in
set_option maxHeartbeats 1000000 in
theorem ref15_Holds (p : Nat) (fa : Option Addr) (fn fcap : Nat) (fl : List Nat) (wa : Option Addr) (wn wcap : Nat) (WL : List PB) (w : World) (hf : Sl w fa fn fcap fl) (hW : SlB w wa wn wcap WL) (hp : p < 4294967296) (hfn : fn ≤ 1000) (hwn : wn ≤ 1000000) (hfew : FewB WL) :
    Calls Tryd.prog 26 #[.agg #[.int .u32 (p : Int), .slice fa fn fcap, .slice wa wn wcap]] w fun e w' => e = .returned (.bool (holdsIB p fl WL)) ∧ Below w.heap.size w w' := by
  have hbx := boxes1 w #[.int .u32 (p : Int), .slice fa fn fcap, .slice wa wn wcap] 42
  have HFEW := Alg.hid hfew
  clear hfew
  generalize hbv : holdsIB p fl WL = bv
  go_enter Tryd.func26, Tryd.ntmps26
  go_upto_region 1 with fail
  generalize hW0 : w.alloc (.cells #[.int .u32 (p : Int), .slice fa fn fcap, .slice wa wn wcap] 42) = W0 at hbx ⊢
  clear hW0
  have K : Hid (∀ W, Boxes w W [#[.int .u32 (p : Int), .slice fa fn fcap, .slice wa wn wcap]] → W.cell? ⟨w.heap.size, 0, none⟩ = some (.int .u32 (p : Int)) ∧ W.cell? ⟨w.heap.size, 1, none⟩ = some (.slice fa fn fcap) ∧ W.cell? ⟨w.heap.size, 2, none⟩ = some (.slice wa wn wcap)) := fun W h => ⟨h.cell' 0 0 _ _ rfl rfl, h.cell' 0 1 _ _ rfl rfl, h.cell' 0 2 _ _ rfl rfl⟩
  obtain ⟨d0, d1, d2⟩ := K.out W0 hbx
  go_wp2_with fail
  refine (ref_Deg (p : Int) fa fn fcap W0 (by omega)).mono ?_
  rintro e w1 ⟨rfl, hb1⟩
  have hx1 := hbx.mono hb1
  clear d0 d1 d2 hbx hb1
  obtain ⟨d0, d1, d2⟩ := K.out w1 hx1
  by_cases h1 : fn < 2
  · have h1' : (fn : Int) - 1 < 1 := by omega
    obtain rfl : bv = false := by rw [← hbv]; exact holdsIB_no (fun h => by have := h.two; have := hf.len; omega)
    go_wp2
    go_ret
    exact ⟨rfl, hx1.below⟩
  have h1' : ¬ (fn : Int) - 1 < 1 := by omega
  go_wp2_with fail
  refine (ref_Right p fa fn fcap fl w1 (hf.mono hx1.below) hp (by omega)).mono ?_
  rintro e w2 ⟨rfl, hb2⟩
  have hx2 := hx1.mono hb2
  clear d0 d1 d2 hx1 hb2
  obtain ⟨d0, d1, d2⟩ := K.out w2 hx2
  cases hr : rightB p fl with
  | false =>
    obtain rfl : bv = false := by rw [← hbv]; exact holdsIB_no (fun h => by have := h.right; rw [hr] at this; cases this)
    go_wp2
    go_ret
    exact ⟨rfl, hx2.below⟩
  | true =>
  obtain ⟨cf, hpr, hp2⟩ := rightB_true.1 hr
  go_wp2_with fail
  refine (ref15_IsMonic (p : Int) fa fn fcap fl w2 (hf.mono hx2.below)).mono ?_
  rintro e w3 ⟨rfl, hb3⟩
  have hx3 := hx2.mono hb3
  clear d0 d1 d2 hx2 hb3
  obtain ⟨d0, d1, d2⟩ := K.out w3 hx3
  cases hm : monB fl with
  | false =>
    obtain rfl : bv = false := by rw [← hbv]; exact holdsIB_no (fun h => by have := h.monB; rw [hm] at this; cases this)
    go_wp2
    go_ret
    exact ⟨rfl, hx3.below⟩
  | true =>
  obtain ⟨N, hN⟩ : ∃ N, fn = N + 1 := ⟨fn - 1, by omega⟩
  subst hN
  have eN : ((N + 1 : Nat) : Int) - 1 = (N : Int) := by omega
  have lf := hf.len
  have lf1 : fl.length - 1 = N := by omega
  have HLF := Alg.hid lf1
  haveI hne : NeZero p := ⟨by have := hpr.1; omega⟩
  have HR := Alg.hid hr
  have HM := Alg.hid hm
  have hfl : fl ≠ [] := fun e => by rw [e] at lf; simp at lf
  have HA := Alg.hid (fun k => (apL_md hpr cf hfl k).canon)
  have HAL := Alg.hid (fun k => (apL_md hpr cf hfl k).len)
  have hl0 := hW.len
  rw [eN]
  clear hr hm lf1 eN hfl
  go_wp2_with fail
  refine (ref15_primes N w3 (by omega) (by omega)).mono ?_
  rintro e w4 ⟨la, ln, lc, rfl, hs, hb4, _⟩
  have hx4 := hx3.mono hb4
  clear d0 d1 d2 hx3 hb4
  obtain ⟨d0, d1, d2⟩ := K.out w4 hx4
  have hln := hs.len
  have hnN := prl_len N
  have hle := hs.le
  have hcap := hs.cap
  have HS := Alg.hid hs
  clear hs
  by_cases hwl : ¬ ln = wn
  · have hwl' : ((wn : Int) != (ln : Int)) = true := by simp; omega
    obtain rfl : bv = false := by rw [← hbv]; exact holdsIB_no (fun h => by have h2 := h.len; rw [HLF.out] at h2; omega)
    go_wp2
    go_ret
    exact ⟨rfl, hx4.below⟩
  obtain rfl : ln = wn := by omega
  have hwl' : ((ln : Int) != (ln : Int)) = false := by simp
  go_wp2_with fail
  refine (ref15_apart p fa (N + 1) fcap fl N w4 (hf.mono hx4.below) hpr hp cf (by omega) (by omega) (by omega)).mono ?_
  rintro e w5 ⟨ra, rn, rc, rfl, hR, hb5, _⟩
  have hx5 := hx4.mono hb5
  have lR := hR.len
  have leR := hR.le
  have lcR := hR.cap
  have HB5 := Alg.hid hb5
  clear d0 d1 d2
  obtain ⟨d0, d1, d2⟩ := K.out w5 hx5
  go_wp2_with fail
  refine (ref_Deg (p : Int) ra rn rc w5 (by omega)).mono ?_
  rintro e w6 ⟨rfl, hb6⟩
  have hx6 := hx5.mono hb6
  have HS6 := Alg.hid ((HS.out.mono HB5.out).mono hb6)
  clear d0 d1 d2 hx4 hx5 HB5 hb6 hb5 HS hR
  obtain ⟨d0, d1, d2⟩ := K.out w6 hx6
  by_cases hr0 : ¬ rn = 0
  · have hr0' : (rn : Int) - 1 ≥ 0 := by omega
    obtain rfl : bv = false := by rw [← hbv]; exact holdsIB_no (fun h => by have h2 := h.whole; rw [HLF.out] at h2; rw [h2] at lR; simp at lR; omega)
    go_wp2
    go_ret
    exact ⟨rfl, hx6.below⟩
  have hr0' : ¬ (rn : Int) - 1 ≥ 0 := by omega
  have HZ : Hid (apL p fl N = []) := List.length_eq_zero_iff.1 (by omega)
  clear lR leR lcR d0 d1 d2
  obtain rfl : rn = 0 := by omega
  go_wp2
  go_loopw [5] (fun v wr => ∃ j : Nat, v = .int .i64 j ∧ j ≤ ln ∧ Hid (LooksTo p fl WL j) ∧ Hid (Below w6.heap.size w6 wr)) (fun v _ => ln - (intOf v).toNat)
  case atStart => exact ⟨0, rfl, Nat.zero_le _, LooksTo.zero _ _ _, Below.refl _ _⟩
  case round =>
    obtain ⟨j, rfl, hj, hLT, hb⟩ := hrel
    by_cases hjn : ¬ j < ln
    · obtain rfl : j = ln := by omega
      have hj' : ¬ (j : Int) < (j : Int) := by omega
      obtain rfl : bv = true := by
        rw [← hbv]
        refine holdsIB_yes (LooksTo.all HR.out HM.out (by omega) (by rw [HLF.out]; omega) (by rw [HLF.out]; exact HZ.out) ?_)
        rw [hl0]; exact hLT.out
      go_wp2
      go_ret
      exact ⟨rfl, (hx6.mono hb.out).below⟩
    have hjn : j < ln := by omega
    have hj' : (j : Int) < (ln : Int) := by omega
    obtain ⟨lb, loff, rfl⟩ := HS6.out.ofPos (by omega)
    have hcell0 := (HS6.out.mono hb.out).nthCell hjn
    obtain ⟨q, hq⟩ : ∃ q, q = nth (prl N) j := ⟨_, rfl⟩
    obtain ⟨k, hk⟩ : ∃ k, k = N / q := ⟨_, rfl⟩
    rw [← hq] at hcell0
    have hpq := (mem_prl (n := N) (by omega) q).1 (by rw [hq]; exact nth_memL (by omega))
    have hq2 := hpq.1.1
    have hqz : ¬ (q : Int) = 0 := by omega
    have hqn : ¬ q = 0 := by omega
    have hqle := Nat.le_of_dvd (by omega) hpq.2
    have ek : (N : Int) / (q : Int) = (k : Int) := by rw [hk]; simp
    have hcell : wr.cell? ⟨lb, loff + j, none⟩ = some (.int .i64 (q : Int)) := hcell0
    have hkN : k ≤ N := by rw [hk]; exact Nat.div_le_self _ _
    have ewk : IntKind.i64.wrap (k : Int) = (k : Int) := by rw [IntKind.wrap_i64]; omega
    have HK : Hid (k = (fl.length - 1) / nth (prl (fl.length - 1)) j) := by show _ = _; rw [HLF.out, hk, hq]
    clear hcell0 hk hq hpq
    have hxr := hx6.mono hb.out
    obtain ⟨wb, woff, rfl⟩ := hW.ofPos (by omega)
    have hjW : j < WL.length := by omega
    obtain ⟨a1, n1, c1, a2, n2, c2, a3, n3, c3, ⟨y0, y1, y2, y3, y4, y5⟩, s1, s2, s3⟩ := (hW.mono hxr.below).nthAt j hjW
    have hfw := HFEW.out WL[j] (List.getElem_mem hjW)
    obtain ⟨X, hX⟩ : ∃ X, X = WL[j] := ⟨_, rfl⟩
    rw [← hX] at y0 y2 y4 s1 s2 s3 hfw
    obtain ⟨pg, G, pu, U, pv, V⟩ := X
    dsimp only at y0 y1 y2 y3 y4 y5 s1 s2 s3 hfw
    rw [s1.len, s2.len, s3.len] at hfw
    have HX := Alg.hid hX
    clear hX
    have hxd := hxr.drew
    have KR : Hid (∀ W, Below wr.drew.heap.size wr.drew W → W.cell? ⟨w.heap.size, 0, none⟩ = some (.int .u32 (p : Int)) ∧ W.cell? ⟨w.heap.size, 1, none⟩ = some (.slice fa (N + 1) fcap) ∧ W.cell? ⟨w.heap.size, 2, none⟩ = some (.slice (some ⟨wb, woff, none⟩) ln wcap) ∧ W.cell? ⟨wb, woff + j * 6, none⟩ = some (.int .u32 (pg : Int)) ∧ W.cell? ⟨wb, woff + j * 6 + 1, none⟩ = some (.slice a1 n1 c1) ∧ W.cell? ⟨wb, woff + j * 6 + 2, none⟩ = some (.int .u32 (pu : Int)) ∧ W.cell? ⟨wb, woff + j * 6 + 3, none⟩ = some (.slice a2 n2 c2) ∧ W.cell? ⟨wb, woff + j * 6 + 4, none⟩ = some (.int .u32 (pv : Int)) ∧ W.cell? ⟨wb, woff + j * 6 + 5, none⟩ = some (.slice a3 n3 c3) ∧ W.cell? ⟨lb, loff + j, none⟩ = some (.int .i64 (q : Int))) := by
      have m : ∀ W, Below wr.drew.heap.size wr.drew W → Below wr.heap.size wr W := fun W h => btrans (bdrew (Below.refl _ wr)) h
      have k0 : ∀ {i : Nat} {v : Value}, wr.cell? ⟨wb, i, none⟩ = some v → ∀ W, Below wr.drew.heap.size wr.drew W → W.cell? ⟨wb, i, none⟩ = some v := fun {i v} hc W h => ((m W h).cell (p := ⟨wb, i, none⟩) (cell_lt hc)).trans hc
      exact fun W h => ⟨(hxd.mono h).cell' 0 0 _ _ rfl rfl, (hxd.mono h).cell' 0 1 _ _ rfl rfl, (hxd.mono h).cell' 0 2 _ _ rfl rfl, k0 y0 W h, k0 y1 W h, k0 y2 W h, k0 y3 W h, k0 y4 W h, k0 y5 W h, ((m W h).cell (p := ⟨lb, loff + j, none⟩) (cell_lt hcell)).trans hcell⟩
    clear y0 y1 y2 y3 y4 y5 hcell
    have hR0 : Below wr.drew.heap.size wr.drew wr.drew := Below.refl _ _
    have ed := HX.out
    have lc1 := s1.cap
    have le1 := s1.le
    by_cases SV : ¬ n1 = 1
    · have hSV : ((n1 : Int) - 1 != 0) = true := by simp; omega
      go_upto_region 10 with fail
      refine wp_region_noPanic ?_
      refine wp_region_held2 27 [(1, 0), (1, 1), (1, 2), (1, 3), (1, 4), (1, 5), (0, 6), (1, 7), (1, 8), (1, 9), (1, 10), (1, 11), (1, 12), (1, 13), (1, 14), (1, 15), (1, 16), (1, 18), (1, 19), (1, 20), (1, 21), (1, 22), (1, 23), (1, 24), (0, 17), (0, 25), (1, 26), (3, 27)] (fun W => W.cell? ⟨w.heap.size, 0, none⟩ = some (.int .u32 (p : Int)) ∧ W.cell? ⟨w.heap.size, 1, none⟩ = some (.slice fa (N + 1) fcap) ∧ W.cell? ⟨w.heap.size, 2, none⟩ = some (.slice (some ⟨wb, woff, none⟩) ln wcap) ∧ W.cell? ⟨wb, woff + j * 6, none⟩ = some (.int .u32 (pg : Int)) ∧ W.cell? ⟨wb, woff + j * 6 + 1, none⟩ = some (.slice a1 n1 c1) ∧ W.cell? ⟨wb, woff + j * 6 + 2, none⟩ = some (.int .u32 (pu : Int)) ∧ W.cell? ⟨wb, woff + j * 6 + 3, none⟩ = some (.slice a2 n2 c2) ∧ W.cell? ⟨wb, woff + j * 6 + 4, none⟩ = some (.int .u32 (pv : Int)) ∧ W.cell? ⟨wb, woff + j * 6 + 5, none⟩ = some (.slice a3 n3 c3) ∧ W.cell? ⟨lb, loff + j, none⟩ = some (.int .i64 (q : Int))) (fun _ => True) (by kernel_rfl) (by kernel_rfl) (fun _ _ _ _ _ h => h) (fun _ _ => trivial) (KR.out _ hR0) (fun _ => ?_)
      simp only [pick2, List.getElem?_cons_succ, List.getElem?_cons_zero]
      iterate 6
        (refine held2_early (v := ?_) (by rfl) ?_ ?_
         rotate_left
         · intro W hSw; (try dsimp only at hSw); go_simp; (try with_reducible rfl)
         try simp only [Act.put, List.setIfInBounds_toArray, List.set_cons_zero, List.set_cons_succ])
      refine held2_loud (fun K' hK => ?_)
      go_simp
      refine (ref_Deg (pg : Int) a1 n1 c1 _ (by omega)).mono ?_
      rintro e v1 ⟨rfl, hc1⟩
      have r1 := btrans hR0 hc1
      refine hK.out _ _ (KR.out _ r1) (fun _ => ?_)
      clear hK K'
      try simp only [Act.put, List.setIfInBounds_toArray, List.set_cons_zero, List.set_cons_succ]
      iterate 2
        (refine held2_early (v := ?_) (by rfl) ?_ ?_
         rotate_left
         · intro W hSw; (try dsimp only at hSw); go_simp; (try with_reducible rfl)
         try simp only [Act.put, List.setIfInBounds_toArray, List.set_cons_zero, List.set_cons_succ])
      iterate 15
        (refine held2_skip1 (by rfl) ?_
         try simp only [Act.put, List.setIfInBounds_toArray, List.set_cons_zero, List.set_cons_succ])
      refine held2_loud (fun K' hK => ?_)
      go_simp
      refine hK.out _ _ (KR.out _ r1) (fun _ => ?_)
      clear hK K'
      try simp only [Act.put, List.setIfInBounds_toArray, List.set_cons_zero, List.set_cons_succ]
      refine held2_loud (fun K' hK => ?_)
      go_simp
      refine hK.out _ _ (KR.out _ r1) (fun _ => ?_)
      clear hK K'
      try simp only [Act.put, List.setIfInBounds_toArray, List.set_cons_zero, List.set_cons_succ]
      iterate 1
        (refine held2_skip1 (by rfl) ?_
         try simp only [Act.put, List.setIfInBounds_toArray, List.set_cons_zero, List.set_cons_succ])
      refine held2_store (fun K' hK => ?_)
      go_simp
      refine hK.out _ _ trivial (fun _ => ?_)
      clear hK K'
      try simp only [Act.put, List.setIfInBounds_toArray, List.set_cons_zero, List.set_cons_succ]
      refine held2_nil ?_
      refine NoPanic.normal ?_
      obtain rfl : bv = false := by rw [← hbv]; exact holdsIB_no (fun h => by have h2 := ((look_iff _ _ _ _).1 (h.look j hjW)).1; rw [← ed] at h2; dsimp only at h2; rw [s1.len] at h2; omega)
      go_wp2
      go_ret
      exact ⟨rfl, (hxd.mono r1).below⟩
    obtain rfl : n1 = 1 := by omega
    clear SV
    cases HV : holdsR p (apL p fl k) p fl pg G pu U pv V with
    | false =>
      go_upto_region 10 with fail
      refine wp_region_noPanic ?_
      refine wp_region_held2 27 [(1, 0), (1, 1), (1, 2), (1, 3), (1, 4), (1, 5), (0, 6), (1, 7), (1, 8), (1, 9), (1, 10), (1, 11), (1, 12), (1, 13), (1, 14), (1, 15), (1, 16), (1, 18), (1, 19), (1, 20), (1, 21), (1, 22), (1, 23), (1, 24), (0, 17), (0, 25), (1, 26), (3, 27)] (fun W => W.cell? ⟨w.heap.size, 0, none⟩ = some (.int .u32 (p : Int)) ∧ W.cell? ⟨w.heap.size, 1, none⟩ = some (.slice fa (N + 1) fcap) ∧ W.cell? ⟨w.heap.size, 2, none⟩ = some (.slice (some ⟨wb, woff, none⟩) ln wcap) ∧ W.cell? ⟨wb, woff + j * 6, none⟩ = some (.int .u32 (pg : Int)) ∧ W.cell? ⟨wb, woff + j * 6 + 1, none⟩ = some (.slice a1 1 c1) ∧ W.cell? ⟨wb, woff + j * 6 + 2, none⟩ = some (.int .u32 (pu : Int)) ∧ W.cell? ⟨wb, woff + j * 6 + 3, none⟩ = some (.slice a2 n2 c2) ∧ W.cell? ⟨wb, woff + j * 6 + 4, none⟩ = some (.int .u32 (pv : Int)) ∧ W.cell? ⟨wb, woff + j * 6 + 5, none⟩ = some (.slice a3 n3 c3) ∧ W.cell? ⟨lb, loff + j, none⟩ = some (.int .i64 (q : Int))) (fun _ => True) (by kernel_rfl) (by kernel_rfl) (fun _ _ _ _ _ h => h) (fun _ _ => trivial) (KR.out _ hR0) (fun _ => ?_)
      simp only [pick2, List.getElem?_cons_succ, List.getElem?_cons_zero]
      iterate 6
        (refine held2_early (v := ?_) (by rfl) ?_ ?_
         rotate_left
         · intro W hSw; (try dsimp only at hSw); go_simp; (try with_reducible rfl)
         try simp only [Act.put, List.setIfInBounds_toArray, List.set_cons_zero, List.set_cons_succ])
      refine held2_loud (fun K' hK => ?_)
      go_simp
      refine (ref_Deg (pg : Int) a1 1 c1 _ (by omega)).mono ?_
      rintro e v1 ⟨rfl, hc1⟩
      have r1 := btrans hR0 hc1
      refine hK.out _ _ (KR.out _ r1) (fun _ => ?_)
      clear hK K'
      try simp only [Act.put, List.setIfInBounds_toArray, List.set_cons_zero, List.set_cons_succ]
      iterate 17
        (refine held2_early (v := ?_) (by rfl) ?_ ?_
         rotate_left
         · intro W hSw; (try dsimp only at hSw); go_simp; (try with_reducible rfl)
         try simp only [Act.put, List.setIfInBounds_toArray, List.set_cons_zero, List.set_cons_succ])
      refine held2_loud (fun K' hK => ?_)
      go_simp
      refine (ref15_apart p fa (N + 1) fcap fl k v1 ((hf.mono hxd.below).mono r1) hpr hp cf (by omega) (by omega) (by omega)).mono ?_
      rintro e v3 ⟨ta, tn, tc, rfl, hst, hc3, _⟩
      have r3 := btrans r1 hc3
      have lt := hst.len
      have lt2 := HAL.out k
      refine hK.out _ _ (KR.out _ r3) (fun _ => ?_)
      clear hK K'
      try simp only [Act.put, List.setIfInBounds_toArray, List.set_cons_zero, List.set_cons_succ]
      refine held2_loud (fun K' hK => ?_)
      go_simp
      refine (ref_HoldsGcd p ta tn tc (apL p fl k) p fa (N + 1) fcap fl pg a1 1 c1 G pu a2 n2 c2 U pv a3 n3 c3 V v3 hst ((hf.mono hxd.below).mono r3) ((s1.drew).mono r3) ((s2.drew).mono r3) ((s3.drew).mono r3) hp (by omega) (by omega) (by omega) (by omega) (by omega)).mono ?_
      rw [HV]
      rintro e v4 ⟨rfl, hc4⟩
      have r4 := btrans r3 hc4
      refine hK.out _ _ (KR.out _ r4) (fun _ => ?_)
      clear hK K'
      try simp only [Act.put, List.setIfInBounds_toArray, List.set_cons_zero, List.set_cons_succ]
      iterate 1
        (refine held2_early (v := ?_) (by rfl) ?_ ?_
         rotate_left
         · intro W hSw; (try dsimp only at hSw); go_simp; (try with_reducible rfl)
         try simp only [Act.put, List.setIfInBounds_toArray, List.set_cons_zero, List.set_cons_succ])
      refine held2_store (fun K' hK => ?_)
      go_simp
      refine hK.out _ _ trivial (fun _ => ?_)
      clear hK K'
      try simp only [Act.put, List.setIfInBounds_toArray, List.set_cons_zero, List.set_cons_succ]
      refine held2_nil ?_
      refine NoPanic.normal ?_
      obtain rfl : bv = false := by rw [← hbv]; exact holdsIB_no (fun h => by have h2 := ((look_iff _ _ _ _).1 (h.look j hjW)).2; rw [← HK.out, ← ed] at h2; dsimp only at h2; rw [HV] at h2; cases h2)
      go_wp2
      go_ret
      exact ⟨rfl, (hxd.mono r4).below⟩
    | true =>
      go_upto_region 10 with fail
      refine wp_region_noPanic ?_
      refine wp_region_held2 27 [(1, 0), (1, 1), (1, 2), (1, 3), (1, 4), (1, 5), (0, 6), (1, 7), (1, 8), (1, 9), (1, 10), (1, 11), (1, 12), (1, 13), (1, 14), (1, 15), (1, 16), (1, 18), (1, 19), (1, 20), (1, 21), (1, 22), (1, 23), (1, 24), (0, 17), (0, 25), (1, 26), (3, 27)] (fun W => W.cell? ⟨w.heap.size, 0, none⟩ = some (.int .u32 (p : Int)) ∧ W.cell? ⟨w.heap.size, 1, none⟩ = some (.slice fa (N + 1) fcap) ∧ W.cell? ⟨w.heap.size, 2, none⟩ = some (.slice (some ⟨wb, woff, none⟩) ln wcap) ∧ W.cell? ⟨wb, woff + j * 6, none⟩ = some (.int .u32 (pg : Int)) ∧ W.cell? ⟨wb, woff + j * 6 + 1, none⟩ = some (.slice a1 1 c1) ∧ W.cell? ⟨wb, woff + j * 6 + 2, none⟩ = some (.int .u32 (pu : Int)) ∧ W.cell? ⟨wb, woff + j * 6 + 3, none⟩ = some (.slice a2 n2 c2) ∧ W.cell? ⟨wb, woff + j * 6 + 4, none⟩ = some (.int .u32 (pv : Int)) ∧ W.cell? ⟨wb, woff + j * 6 + 5, none⟩ = some (.slice a3 n3 c3) ∧ W.cell? ⟨lb, loff + j, none⟩ = some (.int .i64 (q : Int))) (fun _ => True) (by kernel_rfl) (by kernel_rfl) (fun _ _ _ _ _ h => h) (fun _ _ => trivial) (KR.out _ hR0) (fun _ => ?_)
      simp only [pick2, List.getElem?_cons_succ, List.getElem?_cons_zero]
      iterate 6
        (refine held2_early (v := ?_) (by rfl) ?_ ?_
         rotate_left
         · intro W hSw; (try dsimp only at hSw); go_simp; (try with_reducible rfl)
         try simp only [Act.put, List.setIfInBounds_toArray, List.set_cons_zero, List.set_cons_succ])
      refine held2_loud (fun K' hK => ?_)
      go_simp
      refine (ref_Deg (pg : Int) a1 1 c1 _ (by omega)).mono ?_
      rintro e v1 ⟨rfl, hc1⟩
      have r1 := btrans hR0 hc1
      refine hK.out _ _ (KR.out _ r1) (fun _ => ?_)
      clear hK K'
      try simp only [Act.put, List.setIfInBounds_toArray, List.set_cons_zero, List.set_cons_succ]
      iterate 17
        (refine held2_early (v := ?_) (by rfl) ?_ ?_
         rotate_left
         · intro W hSw; (try dsimp only at hSw); go_simp; (try with_reducible rfl)
         try simp only [Act.put, List.setIfInBounds_toArray, List.set_cons_zero, List.set_cons_succ])
      refine held2_loud (fun K' hK => ?_)
      go_simp
      refine (ref15_apart p fa (N + 1) fcap fl k v1 ((hf.mono hxd.below).mono r1) hpr hp cf (by omega) (by omega) (by omega)).mono ?_
      rintro e v3 ⟨ta, tn, tc, rfl, hst, hc3, _⟩
      have r3 := btrans r1 hc3
      have lt := hst.len
      have lt2 := HAL.out k
      refine hK.out _ _ (KR.out _ r3) (fun _ => ?_)
      clear hK K'
      try simp only [Act.put, List.setIfInBounds_toArray, List.set_cons_zero, List.set_cons_succ]
      refine held2_loud (fun K' hK => ?_)
      go_simp
      refine (ref_HoldsGcd p ta tn tc (apL p fl k) p fa (N + 1) fcap fl pg a1 1 c1 G pu a2 n2 c2 U pv a3 n3 c3 V v3 hst ((hf.mono hxd.below).mono r3) ((s1.drew).mono r3) ((s2.drew).mono r3) ((s3.drew).mono r3) hp (by omega) (by omega) (by omega) (by omega) (by omega)).mono ?_
      rw [HV]
      rintro e v4 ⟨rfl, hc4⟩
      have r4 := btrans r3 hc4
      refine hK.out _ _ (KR.out _ r4) (fun _ => ?_)
      clear hK K'
      try simp only [Act.put, List.setIfInBounds_toArray, List.set_cons_zero, List.set_cons_succ]
      iterate 1
        (refine held2_early (v := ?_) (by rfl) ?_ ?_
         rotate_left
         · intro W hSw; (try dsimp only at hSw); go_simp; (try with_reducible rfl)
         try simp only [Act.put, List.setIfInBounds_toArray, List.set_cons_zero, List.set_cons_succ])
      refine held2_store (fun K' hK => ?_)
      go_simp
      refine hK.out _ _ trivial (fun _ => ?_)
      clear hK K'
      try simp only [Act.put, List.setIfInBounds_toArray, List.set_cons_zero, List.set_cons_succ]
      refine held2_nil ?_
      refine NoPanic.normal ?_
      have HL2 : Hid (LooksTo p fl WL (j + 1)) := hLT.out.succ hjW (by rw [← ed]; exact (look_iff _ _ _ _).2 ⟨s1.len, by have h3 := HV; rw [HK.out] at h3; exact h3⟩)
      have HB4 : Hid (Below w6.heap.size w6 v4) := hb.out.trans ((btrans (bdrew (Below.refl _ wr)) r4).mono hb.out.size)
      go_wp2
      go_roundw
      case rel => exact ⟨j + 1, by go_num, by omega, HL2, HB4⟩
      case measure => simp [intOf]; omega
end Go.Proofs.YtcbhoedifgghhaaDoor
