/- Contract of ppoly.Mul. -/
import Derived.Test.YtcefhnmhcapccaaDoorW3
open Alg
namespace Go.Proofs.YtcefhnmhcapccaaDoor
open Go.RowKit
set_option maxHeartbeats 400000 in
theorem ppoly_Mul0 (p : Nat) (fa : Option Addr) (fn fcap : Nat) (ga : Option Addr) (gn gcap : Nat) (q : Int) (w : World) (h0 : fn = 0 ∨ gn = 0) (hfn : fn ≤ 1099511627776) (hgn : gn ≤ 1099511627776) :
    Calls Tryd.prog 18 #[.agg #[.int .u32 p, .slice fa fn fcap], .agg #[.int .u32 q, .slice ga gn gcap]] w (RetP p [] [] w) := by
  by_cases hf0 : fn = 0
  · subst hf0
    have hbx := boxes3 w #[.int .u32 (p : Int), .slice fa 0 fcap] #[.int .u32 q, .slice ga gn gcap] #[.int .u32 0, .slice none 0 0] 25 25 25
    go_enter Tryd.func18, Tryd.ntmps18
    go_wp2_with fail
    refine (ppoly_of p none 0 0 [] _ (Sl.of_nil _ _ _ (by omega))).mono ?_
    rintro e w1 ⟨a1, n1, cap1, rfl, hs1, hb1, hpv1⟩
    have hx1 := hbx.mono hb1
    have e0 : w1.cell? ⟨w.heap.size + 1 + 1, 0, none⟩ = some (.int .u32 0) := hx1.cell' 2 0 _ _ rfl rfl
    have e1 : w1.cell? ⟨w.heap.size + 1 + 1, 1, none⟩ = some (.slice none 0 0) := hx1.cell' 2 1 _ _ rfl rfl
    have e2 : w1.frozen? ⟨w.heap.size + 1 + 1, 0, none⟩ = false := hx1.frozen' 2 0 (by simp)
    have e3 : w1.frozen? ⟨w.heap.size + 1 + 1, 1, none⟩ = false := hx1.frozen' 2 1 (by simp)
    go_wp2
    (try simp only [Exit.inBlock, Exit.then])
    refine bodyPost_ret (v := .agg #[.int .u32 (p : Int), .slice a1 n1 cap1]) (by simp [results, Tryd.results18, go_sem, e0, e1]) rfl ?_
    have hn1 : n1 = 0 := by have := hs1.len; simpa [trim] using this.symm
    subst hn1
    exact ⟨_, _, _, rfl, (hs1.setCell (Or.inl rfl) _).setCell (Or.inl rfl) _, ((hx1.below.setCell (p := ⟨w.heap.size + 1 + 1, 0, none⟩) (by simp; omega) _).setCell (p := ⟨w.heap.size + 1 + 1, 1, none⟩) (by simp; omega) _), Prov.empty⟩
  · have hg0 : gn = 0 := h0.resolve_left hf0
    subst hg0
    have hbx := boxes3 w #[.int .u32 (p : Int), .slice fa fn fcap] #[.int .u32 q, .slice ga 0 gcap] #[.int .u32 0, .slice none 0 0] 25 25 25
    have hfb : ((fn : Int) == 0) = false := by simp; omega
    go_enter Tryd.func18, Tryd.ntmps18
    go_wp2_with fail
    refine (ppoly_of p none 0 0 [] _ (Sl.of_nil _ _ _ (by omega))).mono ?_
    rintro e w1 ⟨a1, n1, cap1, rfl, hs1, hb1, hpv1⟩
    have hx1 := hbx.mono hb1
    have e0 : w1.cell? ⟨w.heap.size + 1 + 1, 0, none⟩ = some (.int .u32 0) := hx1.cell' 2 0 _ _ rfl rfl
    have e1 : w1.cell? ⟨w.heap.size + 1 + 1, 1, none⟩ = some (.slice none 0 0) := hx1.cell' 2 1 _ _ rfl rfl
    have e2 : w1.frozen? ⟨w.heap.size + 1 + 1, 0, none⟩ = false := hx1.frozen' 2 0 (by simp)
    have e3 : w1.frozen? ⟨w.heap.size + 1 + 1, 1, none⟩ = false := hx1.frozen' 2 1 (by simp)
    go_wp2
    (try simp only [Exit.inBlock, Exit.then])
    refine bodyPost_ret (v := .agg #[.int .u32 (p : Int), .slice a1 n1 cap1]) (by simp [results, Tryd.results18, go_sem, e0, e1]) rfl ?_
    have hn1 : n1 = 0 := by have := hs1.len; simpa [trim] using this.symm
    subst hn1
    exact ⟨_, _, _, rfl, (hs1.setCell (Or.inl rfl) _).setCell (Or.inl rfl) _, ((hx1.below.setCell (p := ⟨w.heap.size + 1 + 1, 0, none⟩) (by simp; omega) _).setCell (p := ⟨w.heap.size + 1 + 1, 1, none⟩) (by simp; omega) _), Prov.empty⟩
set_option maxRecDepth 100000 in
set_option maxHeartbeats 1000000 in
theorem ppoly_Mul1 (p : Nat) (fa : Option Addr) (fn fcap : Nat) (fl : List Nat) (ga : Option Addr) (gn gcap : Nat) (gl : List Nat) (q : Int) (w : World) (hf : Sl w fa fn fcap fl) (hg : Sl w ga gn gcap gl)
    (hf0 : 0 < fn) (hg0 : 0 < gn) (hp0 : 0 < p) (hp : p < 4294967296) (hfn : fn ≤ 1099511627776) (hgn : gn ≤ 1099511627776) :
    Calls Tryd.prog 18 #[.agg #[.int .u32 p, .slice fa fn fcap], .agg #[.int .u32 q, .slice ga gn gcap]] w (RetP p (trim (outerM p fl gl (fn + gn - 1) fn)) [] w) := by
  obtain ⟨i0, hi, hz0, hz1, hz2⟩ := info_parts Tryd.infoU
  obtain ⟨n, hn⟩ : ∃ n, n = fn + gn - 1 := ⟨_, rfl⟩
  rw [← hn]
  have hn1 : n + 1 ≤ fn + gn := by omega
  have hn2 : fn + gn ≤ n + 1 := by omega
  clear hn
  have hL : (fn : Int) + (gn : Int) - 1 = (n : Int) := by omega
  have hfb : ((fn : Int) == 0) = false := by simp; omega
  have hgb : ((gn : Int) == 0) = false := by simp; omega
  have HL := Alg.hid hL
  clear hL
  rcases hf.rd with h0 | ⟨b, off, rfl, hcf⟩
  · omega
  rcases hg.rd with h0 | ⟨b', off', rfl, hcg⟩
  · omega
  have HF := Alg.hid hcf
  have HG := Alg.hid hcg
  clear hcf hcg
  go_enter Tryd.func18, Tryd.ntmps18
  go_wp2_with (at_make; refine wpList_make_full _ rfl _ _ 23 rfl w.heap.size 22 i0 (.int .u32 0) 1 Tryd.underlying23 hi hz0 hz1 .i64 .i64 _ _ n rfl rfl HL.out HL.out (by rw [hz2]; omega) (by unfold maxLen; omega) (by simp; omega) ?_; rw [madeCells_u32]; intro w1 hown hgr; simp only [World.size_alloc] at hown; have hbx := (boxes3 w _ _ _ _ _ _).mono (below_grown hgr); clear hgr; have hA : Arr w1 22 w.heap.size (w.heap.size + 1 + 1 + 1) n n (List.replicate n 0) := ⟨hown, fun i => by rw [← upto_zero (fun _ => 0) n, nth_upto]; split <;> decide⟩; clear hown; have d0 : w1.cell? ⟨w.heap.size, 0, none⟩ = some (.int .u32 (p : Int)) := hbx.cell' 0 0 _ _ rfl rfl; have d1 : w1.cell? ⟨w.heap.size, 1, none⟩ = some (.slice (some ⟨b, off, none⟩) fn fcap) := hbx.cell' 0 1 _ _ rfl rfl)
  go_loopw [35] (fun v wr => ∃ i : Nat, v = .int .i64 i ∧ i ≤ fn ∧ Arr wr 22 w.heap.size (w.heap.size + 1 + 1 + 1) n n (outerM p fl gl n i) ∧ Boxes w wr [#[.int .u32 (p : Int), .slice (some ⟨b, off, none⟩) fn fcap], #[.int .u32 q, .slice (some ⟨b', off', none⟩) gn gcap], #[.int .u32 0, .slice none 0 0]]) (fun v _ => fn - (intOf v).toNat)
  case atStart => exact ⟨0, rfl, Nat.zero_le _, hA, hbx⟩
  case round =>
    clear hA hbx d0 d1
    obtain ⟨i, rfl, hik, hA, hbx⟩ := hrel
    obtain ⟨wo, rfl⟩ : ∃ wo : World, wo = wr := ⟨_, rfl⟩
    have d0 : wo.cell? ⟨w.heap.size, 0, none⟩ = some (.int .u32 (p : Int)) := hbx.cell' 0 0 _ _ rfl rfl
    have d2 : wo.cell? ⟨w.heap.size + 1, 1, none⟩ = some (.slice (some ⟨b', off', none⟩) gn gcap) := hbx.cell' 1 1 _ _ rfl rfl
    have hB := hbx.below
    by_cases hin : i < fn
    · have c1 : wo.cell? ⟨b, off + i, none⟩ = some (.int .u32 (nth fl i : Nat)) := (hB.cell (p := ⟨b, off + i, none⟩) (cell_lt (HF.out i hin))).trans (HF.out i hin)
      have HA := Alg.hid hA
      clear hA
      go_wp2
      go_loopw [43] (fun v wr => ∃ k : Nat, v = .int .i64 k ∧ k ≤ gn ∧ Arr wr 22 w.heap.size (w.heap.size + 1 + 1 + 1) n n (innerM p (nth fl i) i gl (outerM p fl gl n i) k) ∧ Boxes w wr [#[.int .u32 (p : Int), .slice (some ⟨b, off, none⟩) fn fcap], #[.int .u32 q, .slice (some ⟨b', off', none⟩) gn gcap], #[.int .u32 0, .slice none 0 0]]) (fun v _ => gn - (intOf v).toNat)
      case atStart => exact ⟨0, rfl, Nat.zero_le _, HA.out, hbx⟩
      case round =>
        clear hbx d0 d2 hB c1 HA
        obtain ⟨k, rfl, hkk, hA, hbx⟩ := hrel
        have d0 : wr.cell? ⟨w.heap.size, 0, none⟩ = some (.int .u32 (p : Int)) := hbx.cell' 0 0 _ _ rfl rfl
        have hB := hbx.below
        by_cases hkn : k < gn
        · have c2 : wr.cell? ⟨b', off' + k, none⟩ = some (.int .u32 (nth gl k : Nat)) := (hB.cell (p := ⟨b', off' + k, none⟩) (cell_lt (HG.out k hkn))).trans (HG.out k hkn)
          have hik2 : i + k < n := by omega
          have cA := hA.cell hik2
          have fA := hA.frozen (i + k)
          have lA := hA.lt (i + k)
          have HA := Alg.hid hA
          clear hA
          go_wp2
          have s1 : (0 : Int) ≤ (i : Int) + k := by omega
          have s2 : (i : Int) + k < n := by omega
          have s3 : ((i : Int) + k).toNat = i + k := by omega
          have s4 : IntKind.i64.wrap ((i : Int) + k) = (i : Int) + k := IntWalk.i64_in _ (by omega)
          go_still_tail 19, (by kernel_rfl)
          still_call (modp_Mul p (nth fl i) (nth gl k) _ hp0 hp (hf.lt i) (hg.lt k))
          repeat still_step
          still_call (modp_Add p (nth (innerM p (nth fl i) i gl (outerM p fl gl n i) k) (i + k)) (mulM p (nth fl i) (nth gl k)) _ hp0 hp lA (Nat.lt_trans (mulM_lt _ _ _ hp0) hp))
          repeat still_step
          refine wpStill_nil ?_
          clear s4 s3
          change wpList _ _ _ _ _ wr.drew
          go_wp2
          go_roundw
          case rel => exact ⟨k + 1, by go_num, by omega, (HA.out.set (i + k) _ (Nat.lt_trans (addM_lt _ _ _ hp0) hp)).drew, (hbx.setCell (by simp) _).drew⟩
          case measure => simp [intOf]; omega
        · go_wp2
          go_roundw
          case rel =>
            have e : k = gn := by omega
            have el := hg.len
            exact ⟨i + 1, by go_num, by omega, by show Arr _ _ _ _ _ _ (innerM p (nth fl i) i gl (outerM p fl gl n i) gl.length); rw [el, ← e]; exact hA, hbx⟩
          case measure => simp [intOf]; omega
    · have ei : i = fn := by omega
      have HS := Alg.hid (hA.sl (by omega))
      clear hA
      go_wp2_with fail
      refine (ppoly_of p _ n n _ _ HS.out).mono ?_
      rintro e w' ⟨a', n', cap', rfl, hs', hb', hpv⟩
      have hbx' := hbx.mono hb'
      have e0 : w'.cell? ⟨w.heap.size + 1 + 1, 0, none⟩ = some (.int .u32 0) := hbx'.cell' 2 0 _ _ rfl rfl
      have e1 : w'.cell? ⟨w.heap.size + 1 + 1, 1, none⟩ = some (.slice none 0 0) := hbx'.cell' 2 1 _ _ rfl rfl
      have e2 : w'.frozen? ⟨w.heap.size + 1 + 1, 0, none⟩ = false := hbx'.frozen' 2 0 (by simp)
      have e3 : w'.frozen? ⟨w.heap.size + 1 + 1, 1, none⟩ = false := hbx'.frozen' 2 1 (by simp)
      have EI := Alg.hid ei
      clear ei
      go_wp2
      (try simp only [Exit.inBlock, Exit.then])
      refine bodyPost_ret (v := .agg #[.int .u32 (p : Int), .slice a' n' cap']) (by simp [results, Tryd.results18, go_sem, e0, e1]) rfl ?_
      have hof : Off a' n' (w.heap.size + 1 + 1) := hpv.offb (by have := hbx.size; simp at this; omega) (by omega)
      rw [← EI.out]
      exact ⟨_, _, _, rfl, (hs'.setCell hof _).setCell hof _, ((hbx'.below.setCell (p := ⟨w.heap.size + 1 + 1, 0, none⟩) (by simp; omega) _).setCell (p := ⟨w.heap.size + 1 + 1, 1, none⟩) (by simp; omega) _), hpv.new hB.size (by omega)⟩
theorem ppoly_Mul (p : Nat) (fa : Option Addr) (fn fcap : Nat) (fl : List Nat) (ga : Option Addr) (gn gcap : Nat) (gl : List Nat) (q : Int) (w : World) (hf : Sl w fa fn fcap fl) (hg : Sl w ga gn gcap gl)
    (hp0 : 0 < p) (hp : p < 4294967296) (hfn : fn ≤ 1099511627776) (hgn : gn ≤ 1099511627776) :
    Calls Tryd.prog 18 #[.agg #[.int .u32 p, .slice fa fn fcap], .agg #[.int .u32 q, .slice ga gn gcap]] w (RetP p (mulL p fl gl) [] w) := by
  unfold mulL
  rw [hf.len, hg.len]
  by_cases h : fn = 0 ∨ gn = 0
  · rw [if_pos h]; exact ppoly_Mul0 p fa fn fcap ga gn gcap q w h hfn hgn
  · rw [if_neg h]; exact ppoly_Mul1 p fa fn fcap fl ga gn gcap gl q w hf hg (by omega) (by omega) hp0 hp hfn hgn
end Go.Proofs.YtcefhnmhcapccaaDoor
