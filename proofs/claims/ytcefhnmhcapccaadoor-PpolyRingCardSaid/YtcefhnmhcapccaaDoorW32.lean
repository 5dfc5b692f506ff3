/- Contract of ppoly.Diff. -/
import Derived.Test.YtcefhnmhcapccaaDoorW26
import Derived.Test.YtcefhnmhcapccaaDoorW7
import Derived.Test.YtcefhnmhcapccaaDoorW4
open Alg Go Go.RowKit
namespace Alg
/-- one coefficient of the derivative -/
def dfC (p : Nat) (l : List Nat) (j : Nat) : Nat := mulM p (nth l (j + 1)) ((j + 1) % p)
def dfL (p : Nat) (l : List Nat) : List Nat := trim ((List.range (l.length - 1)).map (dfC p l))
end Alg
namespace Go.Proofs.YtcefhnmhcapccaaDoor
open Go.RowKit
set_option maxRecDepth 100000 in
set_option maxHeartbeats 600000 in
theorem ppoly_Diff (p : Nat) (fa : Option Addr) (fn fcap : Nat) (fl : List Nat) (w : World) (hf : Sl w fa fn fcap fl)
    (hp0 : 0 < p) (hp : p < 4294967296) (hfn : fn ≤ 1099511627776) :
    Calls Tryd.prog 26 #[.agg #[.int .u32 p, .slice fa fn fcap]] w (RetP p (dfL p fl) [] w) := by
  obtain ⟨i0, hi, hz0, hz1, hz2⟩ := info_parts Tryd.infoU'
  have hbx := boxes2 w #[.int .u32 (p : Int), .slice fa fn fcap] #[.int .u32 0, .slice none 0 0] 25 25
  have K : Hid (∀ W, Boxes w W [#[.int .u32 (p : Int), .slice fa fn fcap], #[.int .u32 0, .slice none 0 0]] → W.cell? ⟨w.heap.size, 0, none⟩ = some (.int .u32 (p : Int)) ∧ W.cell? ⟨w.heap.size, 1, none⟩ = some (.slice fa fn fcap) ∧ Boxes w W [#[.int .u32 (p : Int), .slice fa fn fcap], #[.int .u32 0, .slice none 0 0]]) :=
    fun W h => ⟨h.cell' 0 0 _ _ rfl rfl, h.cell' 0 1 _ _ rfl rfl, h⟩
  have hl := hf.len
  go_enter Tryd.func26, Tryd.ntmps26
  go_wp2
  go_loopw [3, 9] (fun v i wr => ∃ k : Nat, i = .int .i64 k ∧ k ≤ fn ∧ Gr wr 22 (w.heap.size + 2) v (k - 1) ((List.range (k - 1)).map (dfC p fl)) ∧ Boxes w wr [#[.int .u32 (p : Int), .slice fa fn fcap], #[.int .u32 0, .slice none 0 0]]) (fun _ i _ => fn - (intOf i).toNat)
  case atStart => exact ⟨0, rfl, Nat.zero_le _, Gr.nil _ _ _, hbx⟩
  case round =>
    clear hbx
    obtain ⟨k, rfl, hk, hG, hbx⟩ := hrel
    have d0 : wr.cell? ⟨w.heap.size, 0, none⟩ = some (.int .u32 (p : Int)) := hbx.cell' 0 0 _ _ rfl rfl
    have d1 : wr.cell? ⟨w.heap.size, 1, none⟩ = some (.slice fa fn fcap) := hbx.cell' 0 1 _ _ rfl rfl
    by_cases hkn : k < fn
    · rcases hf.rd with h0 | ⟨b, off, rfl, hc⟩
      · omega
      have c1 : wr.cell? ⟨b, off + k, none⟩ = some (.int .u32 (nth fl k : Nat)) := (hbx.below.cell (p := ⟨b, off + k, none⟩) (cell_lt (hc k hkn))).trans (hc k hkn)
      have hlt := hf.lt k
      clear hc
      by_cases hk0 : k = 0
      · have HG := Alg.hid hG
        have hkp : ¬ (0 : Int) < (k : Int) := by omega
        have HK := Alg.hid (show k + 1 - 1 = k - 1 by omega)
        clear hG hk0
        go_wp2
        go_roundw
        case rel => exact ⟨k + 1, by go_num, by omega, by rw [HK.out]; exact HG.out, hbx⟩
        case measure => simp [intOf]; omega
      · have hkp : (0 : Int) < (k : Int) := by omega
        obtain ⟨km, hkm⟩ : ∃ km, km = k % p := ⟨_, rfl⟩
        have HM : Hid (mulM p (nth fl k) km = dfC p fl (k - 1)) := by show _ = mulM p (nth fl (k - 1 + 1)) ((k - 1 + 1) % p); rw [hkm, show k - 1 + 1 = k by omega]
        have hmod : km < 4294967296 := by have := Nat.mod_lt k hp0; omega
        have hmM := mulM_lt p (nth fl k) km hp0
        have m1 : (k : Int).tmod (p : Int) = (km : Int) := by rw [hkm, Int.tmod_eq_emod_of_nonneg (by omega)]; simp
        have m2 : IntKind.i64.wrap (p : Int) = (p : Int) := IntWalk.i64_in _ (by omega)
        have m3 : IntKind.u32.wrap (km : Int) = (km : Int) := IntWalk.u32_in _ (by omega)
        have m4 : IntKind.i64.wrap (km : Int) = (km : Int) := IntWalk.i64_in _ (by omega)
        clear hkm
        have m7 : ((p : Int) == 0) = false := by simp; omega
        have m8 : ¬ p = 0 := by omega
        have q1 : k - 1 + 1 ≤ maxLen := by unfold maxLen; omega
        have q2 : (k - 1 + 1) * 4 ≤ 140737488355328 := by omega
        have q3 : ∀ u ∈ [Value.int .u32 (mulM p (nth fl k) km : Int)], u.oneCell' = true := by simp [Value.oneCell']
        have HG := Alg.hid hG
        have Q3 := Alg.hid q3
        clear hG q3
        go_wp2
        go_region_held3 (fun W => W.cell? ⟨w.heap.size, 0, none⟩ = some (.int .u32 (p : Int)) ∧ W.cell? ⟨w.heap.size, 1, none⟩ = some (.slice (some ⟨b, off, none⟩) fn fcap) ∧ Boxes w W [#[.int .u32 (p : Int), .slice (some ⟨b, off, none⟩) fn fcap], #[.int .u32 0, .slice none 0 0]])
          (first | (exact K.out _ (by assumption)) | (exact K.out _ hbx.drew) | (exact K.out _ (Boxes.alloc_any (by assumption) _)) | fail)
          (first
            | (go_at_call 58; refine (modp_Mul p (nth fl k) km wr.drew hp0 hp hlt hmod).mono ?_; rintro e w1 ⟨rfl, hw⟩; have hx1 : Boxes w w1 [#[.int .u32 (p : Int), .slice (some ⟨b, off, none⟩) fn fcap], #[.int .u32 0, .slice none 0 0]] := (by rw [hw]; exact hbx.drew); have hG1 := HG.out.drew; rw [← hw] at hG1; clear hw)
            | (refine step_append_lies _ (by rfl) _ _ 23 (by rfl) (w.heap.size + 2) 22 i0 _ 1 4 Tryd.underlying23 hi hz0 hz1 hz2 rfl Nat.one_pos _ (k - 1) (vals ((List.range (k - 1)).map (dfC p fl))) (by rfl) (hG1.own.alloc _) ⟨w1.heap.size, 0, none⟩ 1 1 [.int .u32 (mulM p (nth fl k) km : Int)] (by rfl) (by rfl) news_one Q3.out Nat.one_pos q1 q2 (Nat.le_trans hx1.size (size_le_alloc _ _)) (w1.heap.size + 1) (World.size_alloc _ _) ?_; intro gg cap w2 hown2 hgrow hat hlt2; have hx2 := (hx1.alloc_any (.cells #[.int .u32 (mulM p (nth fl k) km : Int)] 22)).grown hgrow (fun q e => HG.out.row q e)) | fail)
        clear m1 m2 m3 m4
        have hG2 := Gr.snoc hown2 hG1.lt (by omega)
        have ek : k - 1 + 1 = k := by omega
        rw [HM.out] at hG2
        have HG2 := Alg.hid hG2
        have EK := Alg.hid ek
        clear hG2 hG1 hown2 hgrow ek
        go_wp2
        go_roundw
        case rel =>
          refine ⟨k + 1, by go_num, by omega, ?_, hx2⟩
          have h9 := HG2.out
          have e9 : (List.range (k + 1 - 1)).map (dfC p fl) = (List.range (k - 1)).map (dfC p fl) ++ [dfC p fl (k - 1)] := by
            rw [show k + 1 - 1 = k - 1 + 1 by omega, List.range_succ, List.map_append, List.map_cons, List.map_nil]
          rw [e9, show k + 1 - 1 = k - 1 + 1 by omega]
          exact h9
        case measure => simp [intOf]; omega
    · have ek : k = fn := by omega
      obtain ⟨a0, cap0, rfl, hs0, hg0⟩ := hG.sl
      have EK := Alg.hid ek
      clear ek hG
      go_wp2_with fail
      refine (ppoly_of p _ (k - 1) cap0 _ _ hs0).mono ?_
      rintro e w' ⟨a', n', cap', rfl, hs', hb', hpv⟩
      have hbx' := hbx.mono hb'
      have e0 : w'.cell? ⟨w.heap.size + 1, 0, none⟩ = some (.int .u32 0) := hbx'.cell' 1 0 _ _ rfl rfl
      have e1 : w'.cell? ⟨w.heap.size + 1, 1, none⟩ = some (.slice none 0 0) := hbx'.cell' 1 1 _ _ rfl rfl
      have e2 : w'.frozen? ⟨w.heap.size + 1, 0, none⟩ = false := hbx'.frozen' 1 0 (by simp)
      have e3 : w'.frozen? ⟨w.heap.size + 1, 1, none⟩ = false := hbx'.frozen' 1 1 (by simp)
      go_wp2
      (try simp only [Exit.inBlock, Exit.then])
      refine bodyPost_ret (v := .agg #[.int .u32 (p : Int), .slice a' n' cap']) (by simp [results, Tryd.results26, go_sem, e0, e1]) rfl ?_
      have hlen := hs0.len
      have hof : Off a' n' (w.heap.size + 1) := own_off hpv hg0 hs' (by have := hbx.size; simp at this; omega) (by omega)
      have eR : dfL p fl = trim ((List.range (k - 1)).map (dfC p fl)) := by unfold dfL; rw [hl, EK.out]
      rw [eR]
      exact ⟨_, _, _, rfl, (hs'.setCell hof _).setCell hof _, ((hbx'.below.setCell (p := ⟨w.heap.size + 1, 0, none⟩) (by simp) _).setCell (p := ⟨w.heap.size + 1, 1, none⟩) (by simp) _), own_prov hpv hg0 hs' hbx.below.size (by omega)⟩
end Go.Proofs.YtcefhnmhcapccaaDoor
