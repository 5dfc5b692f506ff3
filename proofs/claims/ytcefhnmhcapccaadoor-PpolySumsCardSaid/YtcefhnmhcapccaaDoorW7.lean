/- Contracts of the reference's Scale and Add. -/
import Derived.Test.YtcefhnmhcapccaaDoorW2
import Derived.Test.YtcefhnmhcapccaaDoorWB
import Derived.Deep.AppendLies
open Alg
namespace Go.Proofs.YtcefhnmhcapccaaDoor
open Go.RowKit
theorem Tryd.infoU' : (Tryd.prog.info? 22).map (fun i => (i.zero, i.size, i.bytes)) = some (some (.int .u32 0), 1, 4) := by kernel_rfl
theorem news_one {w : World} {v : Value} {t : TypeId} : ∀ (j : Nat) (u : Value), [v][j]? = some u → (w.alloc (.cells #[v] t)).cell? ((⟨w.heap.size, 0, none⟩ : Addr).add j) = some u := by
  intro j u hj
  match j, hj with
  | 0, hj =>
    have : v = u := by simpa using hj
    subst this
    simp [Addr.add]
set_option maxRecDepth 100000 in
set_option maxHeartbeats 1000000 in
theorem ref_Scale (p c : Nat) (fa : Option Addr) (fn fcap : Nat) (fl : List Nat) (w : World) (hf : Sl w fa fn fcap fl)
    (hp0 : 0 < p) (hp : p < 4294967296) (hcc : c < 4294967296) (hfn : fn ≤ 1099511627776) :
    Calls Tryd.prog 31 #[.agg #[.int .u32 p, .slice fa fn fcap], .int .u32 c] w
      (RetP p (trim ((List.range fn).map fun i => mulM p (nth fl i) c)) [] w) := by
  obtain ⟨i0, hi, hz0, hz1, hz2⟩ := info_parts Tryd.infoU'
  have hbx := boxes2 w #[.int .u32 (p : Int), .slice fa fn fcap] #[.int .u32 0, .slice none 0 0] 25 25
  have K : Hid (∀ W, Boxes w W [#[.int .u32 (p : Int), .slice fa fn fcap], #[.int .u32 0, .slice none 0 0]] → W.cell? ⟨w.heap.size, 0, none⟩ = some (.int .u32 (p : Int)) ∧ W.cell? ⟨w.heap.size, 1, none⟩ = some (.slice fa fn fcap) ∧ Boxes w W [#[.int .u32 (p : Int), .slice fa fn fcap], #[.int .u32 0, .slice none 0 0]]) :=
    fun W h => ⟨h.cell' 0 0 _ _ rfl rfl, h.cell' 0 1 _ _ rfl rfl, h⟩
  go_enter Tryd.func31, Tryd.ntmps31
  go_wp2
  go_loopw [5, 6] (fun v i wr => ∃ k : Nat, i = .int .i64 k ∧ k ≤ fn ∧ Gr wr 22 (w.heap.size + 2) v k ((List.range k).map fun i => mulM p (nth fl i) c) ∧ Boxes w wr [#[.int .u32 (p : Int), .slice fa fn fcap], #[.int .u32 0, .slice none 0 0]]) (fun _ i _ => fn - (intOf i).toNat)
  case atStart => exact ⟨0, rfl, Nat.zero_le _, Gr.nil _ _ _, hbx⟩
  case round =>
    clear hbx
    obtain ⟨k, rfl, hk, hG, hbx⟩ := hrel
    have d0 : wr.cell? ⟨w.heap.size, 0, none⟩ = some (.int .u32 (p : Int)) := hbx.cell' 0 0 _ _ rfl rfl
    have d1 : wr.cell? ⟨w.heap.size, 1, none⟩ = some (.slice fa fn fcap) := hbx.cell' 0 1 _ _ rfl rfl
    by_cases hkn : k < fn
    · go_wp2
      have hlt := hf.lt k
      obtain ⟨b1, b2⟩ := cMul_le hlt hcc
      have hm := mulM_lt p (nth fl k) c hp0
      have m1 : IntKind.u64.wrap ((nth fl k : Int) * (c : Int)) = (nth fl k : Int) * (c : Int) := IntWalk.u64_in _ (by omega)
      have m2 : ((nth fl k : Int) * (c : Int)).tmod (p : Int) = (mulM p (nth fl k) c : Int) := by rw [Int.tmod_eq_emod_of_nonneg b2, mulM_cast]
      have m3 : IntKind.u64.wrap (mulM p (nth fl k) c : Int) = (mulM p (nth fl k) c : Int) := IntWalk.u64_in _ (by omega)
      have m4 : IntKind.u32.wrap (mulM p (nth fl k) c : Int) = (mulM p (nth fl k) c : Int) := IntWalk.u32_in _ (by omega)
      have m5 : IntKind.u64.wrap (p : Int) = (p : Int) := IntWalk.u64_in _ (by omega)
      have m6 : IntKind.u64.wrap (c : Int) = (c : Int) := IntWalk.u64_in _ (by omega)
      have m7 : ((p : Int) == 0) = false := by simp; omega
      have m8 : ¬ p = 0 := by omega
      have q1 : k + 1 ≤ maxLen := by unfold maxLen; omega
      have q2 : (k + 1) * 4 ≤ 140737488355328 := by omega
      have q3 : ∀ u ∈ [Value.int .u32 (mulM p (nth fl k) c : Int)], u.oneCell' = true := by simp [Value.oneCell']
      have HG := Alg.hid hG
      have Q3 := Alg.hid q3
      clear hG q3
      go_region_held3 (fun W => W.cell? ⟨w.heap.size, 0, none⟩ = some (.int .u32 (p : Int)) ∧ W.cell? ⟨w.heap.size, 1, none⟩ = some (.slice fa fn fcap) ∧ Boxes w W [#[.int .u32 (p : Int), .slice fa fn fcap], #[.int .u32 0, .slice none 0 0]])
        (first | (exact K.out _ (by assumption)) | (exact K.out _ hbx.drew) | (exact K.out _ (Boxes.alloc_any (by assumption) _)) | fail)
        (first
          | (go_at_call 62; refine (ref_at p fa fn fcap fl k _ ((hf.mono hbx.below).drew)).mono ?_; rintro e w1 ⟨rfl, hb1⟩; have hx1 := hbx.drew.mono hb1; have hG1 := HG.out.drew.mono hb1)
          | (refine step_append_lies _ (by rfl) _ _ 23 (by rfl) (w.heap.size + 2) 22 i0 _ 1 4 Tryd.underlying23 hi hz0 hz1 hz2 rfl Nat.one_pos _ k (vals ((List.range k).map fun i => mulM p (nth fl i) c)) (by rfl) (hG1.own.alloc _) ⟨w1.heap.size, 0, none⟩ 1 1 [.int .u32 (mulM p (nth fl k) c : Int)] (by rfl) (by rfl) news_one Q3.out Nat.one_pos q1 q2 (Nat.le_trans hx1.size (size_le_alloc _ _)) (w1.heap.size + 1) (World.size_alloc _ _) ?_; intro gg cap w2 hown2 hgrow hat hlt2; have hx2 := (hx1.alloc_any (.cells #[.int .u32 (mulM p (nth fl k) c : Int)] 22)).grown hgrow (fun q e => HG.out.row q e)) | fail)
      clear m1 m2 m3 m4 m5 m6
      have hG2 := Gr.snoc hown2 hG1.lt (by omega)
      clear hown2 hgrow
      have HG2 := Alg.hid hG2
      clear hG2 hG1
      go_wp2
      go_roundw
      case rel => exact ⟨k + 1, by go_num, by omega, by rw [List.range_succ, List.map_append]; exact HG2.out, hx2⟩
      case measure => simp [intOf]; omega
    · have ek : k = fn := by omega
      obtain ⟨a0, cap0, rfl, hs0, hg0⟩ := hG.sl
      have EK := Alg.hid ek
      clear ek hG
      go_wp2_with fail
      refine (ref_cut p _ k cap0 _ _ hs0).mono ?_
      rintro e w' ⟨a', n', cap', rfl, hs', hb', hpv⟩
      have hbx' := hbx.mono hb'
      have e0 : w'.cell? ⟨w.heap.size + 1, 0, none⟩ = some (.int .u32 0) := hbx'.cell' 1 0 _ _ rfl rfl
      have e1 : w'.cell? ⟨w.heap.size + 1, 1, none⟩ = some (.slice none 0 0) := hbx'.cell' 1 1 _ _ rfl rfl
      have e2 : w'.frozen? ⟨w.heap.size + 1, 0, none⟩ = false := hbx'.frozen' 1 0 (by simp)
      have e3 : w'.frozen? ⟨w.heap.size + 1, 1, none⟩ = false := hbx'.frozen' 1 1 (by simp)
      go_wp2
      (try simp only [Exit.inBlock, Exit.then])
      refine bodyPost_ret (v := .agg #[.int .u32 (p : Int), .slice a' n' cap']) (by simp [results, Tryd.results31, go_sem, e0, e1]) rfl ?_
      have hlen := hs0.len
      have hof : Off a' n' (w.heap.size + 1) := own_off hpv hg0 hs' (by have := hbx.size; simp at this; omega) (by omega)
      rw [← EK.out]
      exact ⟨_, _, _, rfl, (hs'.setCell hof _).setCell hof _, ((hbx'.below.setCell (p := ⟨w.heap.size + 1, 0, none⟩) (by simp) _).setCell (p := ⟨w.heap.size + 1, 1, none⟩) (by simp) _), own_prov hpv hg0 hs' hbx.below.size (by omega)⟩
end Go.Proofs.YtcefhnmhcapccaaDoor
