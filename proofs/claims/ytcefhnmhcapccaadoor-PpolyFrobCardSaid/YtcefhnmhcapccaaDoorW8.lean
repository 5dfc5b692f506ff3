/- Contracts of the reference's Add, Sub, Diff. -/
import Derived.Test.YtcefhnmhcapccaaDoorE2
open Alg
namespace Go.Proofs.YtcefhnmhcapccaaDoor
open Go.RowKit
set_option maxRecDepth 100000 in
set_option maxHeartbeats 1000000 in
theorem ref_Add (p : Nat) (fa : Option Addr) (fn fcap : Nat) (fl : List Nat) (ga : Option Addr) (gn gcap : Nat) (gl : List Nat) (q : Int) (w : World) (hf : Sl w fa fn fcap fl) (hg : Sl w ga gn gcap gl)
    (hp0 : 0 < p) (hp : p < 4294967296) (hfn : fn ≤ 1099511627776) (hgn : gn ≤ 1099511627776) :
    Calls Tryd.prog 32 #[.agg #[.int .u32 p, .slice fa fn fcap], .agg #[.int .u32 q, .slice ga gn gcap]] w
      (RetP p (trim ((List.range (max fn gn)).map fun i => addM p (nth fl i) (nth gl i))) [] w) := by
  obtain ⟨i0, hi, hz0, hz1, hz2⟩ := info_parts Tryd.infoU'
  obtain ⟨n, hn⟩ : ∃ n, n = max fn gn := ⟨_, rfl⟩
  rw [← hn]
  have hfle : fn ≤ n := by omega
  have hgle : gn ≤ n := by omega
  have hor : n = fn ∨ n = gn := by omega
  clear hn
  have hbx := boxes3 w #[.int .u32 (p : Int), .slice fa fn fcap] #[.int .u32 q, .slice ga gn gcap] #[.int .u32 0, .slice none 0 0] 25 25 25
  have K : Hid (∀ W, Boxes w W [#[.int .u32 (p : Int), .slice fa fn fcap], #[.int .u32 q, .slice ga gn gcap], #[.int .u32 0, .slice none 0 0]] → W.cell? ⟨w.heap.size, 0, none⟩ = some (.int .u32 (p : Int)) ∧ W.cell? ⟨w.heap.size, 1, none⟩ = some (.slice fa fn fcap) ∧ W.cell? ⟨w.heap.size + 1, 0, none⟩ = some (.int .u32 q) ∧ W.cell? ⟨w.heap.size + 1, 1, none⟩ = some (.slice ga gn gcap) ∧ Boxes w W [#[.int .u32 (p : Int), .slice fa fn fcap], #[.int .u32 q, .slice ga gn gcap], #[.int .u32 0, .slice none 0 0]]) :=
    fun W h => ⟨h.cell' 0 0 _ _ rfl rfl, h.cell' 0 1 _ _ rfl rfl, h.cell' 1 0 _ _ rfl rfl, h.cell' 1 1 _ _ rfl rfl, h⟩
  go_enter Tryd.func32, Tryd.ntmps32
  go_wp2
  go_loopw [5, 6] (fun v i wr => ∃ k : Nat, i = .int .i64 k ∧ k ≤ n ∧ Gr wr 22 (w.heap.size + 3) v k ((List.range k).map fun i => addM p (nth fl i) (nth gl i)) ∧ Boxes w wr [#[.int .u32 (p : Int), .slice fa fn fcap], #[.int .u32 q, .slice ga gn gcap], #[.int .u32 0, .slice none 0 0]]) (fun _ i _ => n - (intOf i).toNat)
  case atStart => exact ⟨0, rfl, Nat.zero_le _, Gr.nil _ _ _, hbx⟩
  case round =>
    clear hbx
    obtain ⟨k, rfl, hk, hG, hbx⟩ := hrel
    have d0 : wr.cell? ⟨w.heap.size, 0, none⟩ = some (.int .u32 (p : Int)) := hbx.cell' 0 0 _ _ rfl rfl
    have d1 : wr.cell? ⟨w.heap.size, 1, none⟩ = some (.slice fa fn fcap) := hbx.cell' 0 1 _ _ rfl rfl
    have d2 : wr.cell? ⟨w.heap.size + 1, 1, none⟩ = some (.slice ga gn gcap) := hbx.cell' 1 1 _ _ rfl rfl
    by_cases hkn : k < n
    · have hcase : k < fn ∨ (¬ k < fn ∧ k < gn) := by omega
      rcases hcase with h1 | ⟨h1, h2⟩
      all_goals
        go_wp2
        have l1 := hf.lt k
        have l2 := hg.lt k
        have hm := addM_lt p (nth fl k) (nth gl k) hp0
        have m1 : IntKind.u64.wrap ((nth fl k : Int) + (nth gl k : Int)) = (nth fl k : Int) + (nth gl k : Int) := IntWalk.u64_in _ (by omega)
        have m2 : ((nth fl k : Int) + (nth gl k : Int)).tmod (p : Int) = (addM p (nth fl k) (nth gl k) : Int) := by rw [Int.tmod_eq_emod_of_nonneg (by omega), addM_cast]
        have m4 : IntKind.u32.wrap (addM p (nth fl k) (nth gl k) : Int) = (addM p (nth fl k) (nth gl k) : Int) := IntWalk.u32_in _ (by omega)
        have m5 : IntKind.u64.wrap (p : Int) = (p : Int) := IntWalk.u64_in _ (by omega)
        have m7 : ((p : Int) == 0) = false := by simp; omega
        have m8 : ¬ p = 0 := by omega
        have q1 : k + 1 ≤ maxLen := by unfold maxLen; omega
        have q2 : (k + 1) * 4 ≤ 140737488355328 := by omega
        have q3 : ∀ u ∈ [Value.int .u32 (addM p (nth fl k) (nth gl k) : Int)], u.oneCell' = true := by simp [Value.oneCell']
        have HG := Alg.hid hG
        have Q3 := Alg.hid q3
        clear hG q3
        go_region_held3 (fun W => W.cell? ⟨w.heap.size, 0, none⟩ = some (.int .u32 (p : Int)) ∧ W.cell? ⟨w.heap.size, 1, none⟩ = some (.slice fa fn fcap) ∧ W.cell? ⟨w.heap.size + 1, 0, none⟩ = some (.int .u32 q) ∧ W.cell? ⟨w.heap.size + 1, 1, none⟩ = some (.slice ga gn gcap) ∧ Boxes w W [#[.int .u32 (p : Int), .slice fa fn fcap], #[.int .u32 q, .slice ga gn gcap], #[.int .u32 0, .slice none 0 0]])
          (first | (exact K.out _ (by assumption)) | (exact K.out _ hbx.drew) | (exact K.out _ (Boxes.alloc_any (by assumption) _)) | fail)
          (first
            | (go_at_call 62; with_reducible refine (ref_at p fa fn fcap fl k wr.drew ((hf.mono hbx.below).drew)).mono ?_; rintro e w1 ⟨rfl, hb1⟩; have hx1 := hbx.drew.mono hb1; have hG1 := HG.out.drew.mono hb1)
            | (go_at_call 62; with_reducible refine (ref_at q ga gn gcap gl k w1 (hg.mono hx1.below)).mono ?_; rintro e w2 ⟨rfl, hb2⟩; have hx2 := hx1.mono hb2; have hG2 := hG1.mono hb2)
            | (refine step_append_lies _ (by rfl) _ _ 23 (by rfl) (w.heap.size + 3) 22 i0 _ 1 4 Tryd.underlying23 hi hz0 hz1 hz2 rfl Nat.one_pos _ k (vals ((List.range k).map fun i => addM p (nth fl i) (nth gl i))) (by rfl) (hG2.own.alloc _) ⟨w2.heap.size, 0, none⟩ 1 1 [.int .u32 (addM p (nth fl k) (nth gl k) : Int)] (by rfl) (by rfl) news_one Q3.out Nat.one_pos q1 q2 (Nat.le_trans hx2.size (size_le_alloc _ _)) (w2.heap.size + 1) (World.size_alloc _ _) ?_; intro gg cap w3 hown2 hgrow hat hlt2; have hx3 := (hx2.alloc_any (.cells #[.int .u32 (addM p (nth fl k) (nth gl k) : Int)] 22)).grown hgrow (fun q e => HG.out.row q e)) | fail)
        clear m1 m2 m4 m5
        have HG2 := Alg.hid (Gr.snoc hown2 hG2.lt (by omega))
        clear hown2 hgrow hG2 hG1
        go_wp2
        go_roundw
        case rel => exact ⟨k + 1, by go_num, by omega, by rw [List.range_succ, List.map_append]; exact HG2.out, hx3⟩
        case measure => simp [intOf]; omega
    · have ek : k = n := by omega
      obtain ⟨a0, cap0, rfl, hs0, hg0⟩ := hG.sl
      have EK := Alg.hid ek
      have h1 : ¬ k < fn := by omega
      have h2 : ¬ k < gn := by omega
      clear ek hG
      go_wp2_with fail
      refine (ref_cut p _ k cap0 _ _ hs0).mono ?_
      rintro e w' ⟨a', n', cap', rfl, hs', hb', hpv⟩
      have hbx' := hbx.mono hb'
      have e0 : w'.cell? ⟨w.heap.size + 1 + 1, 0, none⟩ = some (.int .u32 0) := hbx'.cell' 2 0 _ _ rfl rfl
      have e1 : w'.cell? ⟨w.heap.size + 1 + 1, 1, none⟩ = some (.slice none 0 0) := hbx'.cell' 2 1 _ _ rfl rfl
      have e2 : w'.frozen? ⟨w.heap.size + 1 + 1, 0, none⟩ = false := hbx'.frozen' 2 0 (by simp)
      have e3 : w'.frozen? ⟨w.heap.size + 1 + 1, 1, none⟩ = false := hbx'.frozen' 2 1 (by simp)
      go_wp2
      (try simp only [Exit.inBlock, Exit.then])
      refine bodyPost_ret (v := .agg #[.int .u32 (p : Int), .slice a' n' cap']) (by simp [results, Tryd.results32, go_sem, e0, e1]) rfl ?_
      have hlen := hs0.len
      have hof : Off a' n' (w.heap.size + 1 + 1) := own_off hpv hg0 hs' (by have := hbx.size; simp at this; omega) (by omega)
      rw [← EK.out]
      exact ⟨_, _, _, rfl, (hs'.setCell hof _).setCell hof _, ((hbx'.below.setCell (p := ⟨w.heap.size + 1 + 1, 0, none⟩) (by simp; try omega) _).setCell (p := ⟨w.heap.size + 1 + 1, 1, none⟩) (by simp; try omega) _), own_prov hpv hg0 hs' hbx.below.size (by omega)⟩
def subL (p : Nat) (f g : List Nat) : List Nat := trim ((List.range (max f.length (trim ((List.range g.length).map fun i => mulM p (nth g i) (p - 1))).length)).map fun i => addM p (nth f i) (nth (trim ((List.range g.length).map fun i => mulM p (nth g i) (p - 1))) i))
set_option maxRecDepth 100000 in
set_option maxHeartbeats 1000000 in
theorem ref_Sub (p : Nat) (fa : Option Addr) (fn fcap : Nat) (fl : List Nat) (ga : Option Addr) (gn gcap : Nat) (gl : List Nat) (w : World) (hf : Sl w fa fn fcap fl) (hg : Sl w ga gn gcap gl)
    (hp0 : 0 < p) (hp : p < 4294967296) (hfn : fn ≤ 1099511627776) (hgn : gn ≤ 1099511627776) :
    Calls Tryd.prog 34 #[.agg #[.int .u32 p, .slice fa fn fcap], .agg #[.int .u32 p, .slice ga gn gcap]] w (RetP p (subL p fl gl) [] w) := by
  have hbx := boxes3 w #[.int .u32 (p : Int), .slice fa fn fcap] #[.int .u32 (p : Int), .slice ga gn gcap] #[.int .u32 0, .slice none 0 0] 25 25 25
  have hbxl := hbx.less 2
  have K : Hid (∀ W, Boxes w W [#[.int .u32 (p : Int), .slice fa fn fcap], #[.int .u32 (p : Int), .slice ga gn gcap]] → W.cell? ⟨w.heap.size, 0, none⟩ = some (.int .u32 (p : Int)) ∧ W.cell? ⟨w.heap.size, 1, none⟩ = some (.slice fa fn fcap) ∧ W.cell? ⟨w.heap.size + 1, 0, none⟩ = some (.int .u32 (p : Int)) ∧ W.cell? ⟨w.heap.size + 1, 1, none⟩ = some (.slice ga gn gcap) ∧ Boxes w W [#[.int .u32 (p : Int), .slice fa fn fcap], #[.int .u32 (p : Int), .slice ga gn gcap]]) :=
    fun W h => ⟨h.cell' 0 0 _ _ rfl rfl, h.cell' 0 1 _ _ rfl rfl, h.cell' 1 0 _ _ rfl rfl, h.cell' 1 1 _ _ rfl rfl, h⟩
  have m1 : IntKind.u32.wrap ((p : Int) - 1) = ((p - 1 : Nat) : Int) := by rw [IntWalk.u32_in _ (by omega)]; omega
  have M1 := Alg.hid m1
  clear m1
  have m2 : IntKind.u32.wrap ((p : Int) - 1) = (p : Int) - 1 := IntWalk.u32_in _ (by omega)
  have ml : ((List.range gn).map fun i => mulM p (nth gl i) (p - 1)).length = gn := by simp
  have ML := Alg.hid ml
  clear ml
  go_enter Tryd.func34, Tryd.ntmps34
  go_wp2
  go_region_held3 (fun W => W.cell? ⟨w.heap.size, 0, none⟩ = some (.int .u32 (p : Int)) ∧ W.cell? ⟨w.heap.size, 1, none⟩ = some (.slice fa fn fcap) ∧ W.cell? ⟨w.heap.size + 1, 0, none⟩ = some (.int .u32 (p : Int)) ∧ W.cell? ⟨w.heap.size + 1, 1, none⟩ = some (.slice ga gn gcap) ∧ Boxes w W [#[.int .u32 (p : Int), .slice fa fn fcap], #[.int .u32 (p : Int), .slice ga gn gcap]])
    (first | (exact K.out _ (by assumption)) | (exact K.out _ hbxl.drew) | (exact K.out _ (Boxes.setCell (Boxes.setCell (by assumption) (by simp) _) (by simp) _)) | fail)
    (first
      | (go_at_call 31; rw [show ((p : Int) - 1) = ((p - 1 : Nat) : Int) by omega]; refine (ref_Scale p (p - 1) ga gn gcap gl _ ((hg.mono hbx.below).drew) hp0 hp (by omega) hgn).mono ?_; rintro e w1 ⟨a1, n1, cap1, rfl, hs1, hb1, hpv1⟩; have hx1 := hbx.drew.mono hb1; have hx1' := hx1.less 2; have hn1 : n1 ≤ gn := by (have := hs1.len; have := trim_len ((List.range gn).map fun i => mulM p (nth gl i) (p - 1)); have := ML.out; omega))
      | (go_at_call 32; refine (ref_Add p fa fn fcap fl a1 n1 cap1 _ p w1 (hf.mono hx1.below) hs1 hp0 hp hfn (by omega)).mono ?_; rintro e w' ⟨a', n', cap', rfl, hs', hb', hpv⟩; have hbx' := hx1.mono hb'; have hbx2' := hbx'.less 2; have e0 : w'.cell? ⟨w.heap.size + 1 + 1, 0, none⟩ = some (.int .u32 0) := hbx'.cell' 2 0 _ _ rfl rfl; have e1 : w'.cell? ⟨w.heap.size + 1 + 1, 1, none⟩ = some (.slice none 0 0) := hbx'.cell' 2 1 _ _ rfl rfl; have e2 : w'.frozen? ⟨w.heap.size + 1 + 1, 0, none⟩ = false := hbx'.frozen' 2 0 (by simp); have e3 : w'.frozen? ⟨w.heap.size + 1 + 1, 1, none⟩ = false := hbx'.frozen' 2 1 (by simp)) | fail)
  all_goals
    go_wp2
    (try simp only [Exit.inBlock, Exit.then])
    refine bodyPost_ret (v := .agg #[.int .u32 (p : Int), .slice a' n' cap']) (by simp [results, Tryd.results34, go_sem, e0, e1]) rfl ?_
    have hof : Off a' n' (w.heap.size + 1 + 1) := hpv.off0 (by have := hx1.size; simp at this; omega)
    have e4 : subL p fl gl = trim ((List.range (max fn n1)).map fun i => addM p (nth fl i) (nth (trim ((List.range gn).map fun i => mulM p (nth gl i) (p - 1))) i)) := by unfold subL; rw [hf.len, hg.len, hs1.len]
    rw [e4]
    exact ⟨_, _, _, rfl, (hs'.setCell hof _).setCell hof _, ((hbx'.below.setCell (p := ⟨w.heap.size + 1 + 1, 0, none⟩) (by simp; try omega) _).setCell (p := ⟨w.heap.size + 1 + 1, 1, none⟩) (by simp; try omega) _), hpv.mono hx1.below.size⟩
end Go.Proofs.YtcefhnmhcapccaaDoor
