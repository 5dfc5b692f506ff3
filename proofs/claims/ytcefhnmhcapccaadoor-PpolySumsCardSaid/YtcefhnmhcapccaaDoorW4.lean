/- Contracts of ppoly.Add, Sub, Scale. -/
import Derived.Test.YtcefhnmhcapccaaDoorW3
open Alg
namespace Go.Proofs.YtcefhnmhcapccaaDoor
open Go.RowKit
set_option maxHeartbeats 400000 in
theorem ppoly_Add (p : Nat) (fa : Option Addr) (fn fcap : Nat) (fl : List Nat) (ga : Option Addr) (gn gcap : Nat) (gl : List Nat) (q : Int) (w : World) (hf : Sl w fa fn fcap fl) (hg : Sl w ga gn gcap gl)
    (hp0 : 0 < p) (hp : p < 4294967296) (hfn : fn ≤ 1099511627776) (hgn : gn ≤ 1099511627776) :
    Calls Tryd.prog 17 #[.agg #[.int .u32 p, .slice fa fn fcap], .agg #[.int .u32 q, .slice ga gn gcap]] w
      (RetP p (trim ((List.range (max fn gn)).map fun i => addM p (nth fl i) (nth gl i))) [] w) := by
  go_enter Tryd.func17, Tryd.ntmps17
  go_wp2_with fail
  have hbx := boxes3 w #[.int .u32 (p : Int), .slice fa fn fcap] #[.int .u32 q, .slice ga gn gcap] #[.int .u32 0, .slice none 0 0] 25 25 25
  refine (zip_Add p fa fn fcap fl ga gn gcap gl q w.heap.size _ (hf.mono hbx.below) (hg.mono hbx.below) (hbx.cell' 0 0 _ _ rfl rfl) hp0 hp hg.lt hfn hgn).mono ?_
  rintro e w' ⟨a', n', cap', rfl, hs', hb', hpv⟩
  have hbx' := hbx.mono hb'
  have hsz := hbx.size
  simp at hsz
  have e0 : w'.cell? ⟨w.heap.size + 1 + 1, 0, none⟩ = some (.int .u32 0) := hbx'.cell' 2 0 _ _ rfl rfl
  have e1 : w'.cell? ⟨w.heap.size + 1 + 1, 1, none⟩ = some (.slice none 0 0) := hbx'.cell' 2 1 _ _ rfl rfl
  have e2 : w'.frozen? ⟨w.heap.size + 1 + 1, 0, none⟩ = false := hbx'.frozen' 2 0 (by simp)
  have e3 : w'.frozen? ⟨w.heap.size + 1 + 1, 1, none⟩ = false := hbx'.frozen' 2 1 (by simp)
  have hof : Off a' n' (w.heap.size + 1 + 1) := hpv.off0 (by simp)
  go_wp2
  (try simp only [Exit.inBlock, Exit.then])
  refine bodyPost_ret (v := .agg #[.int .u32 (p : Int), .slice a' n' cap']) (by simp [results, Tryd.results17, go_sem, e0, e1]) rfl ?_
  exact ⟨_, _, _, rfl, (hs'.setCell hof _).setCell hof _, ((hbx'.below.setCell (p := ⟨w.heap.size + 1 + 1, 0, none⟩) (by simp; omega) _).setCell (p := ⟨w.heap.size + 1 + 1, 1, none⟩) (by simp; omega) _), hpv.mono hbx.below.size⟩
set_option maxHeartbeats 400000 in
theorem ppoly_Sub (p : Nat) (fa : Option Addr) (fn fcap : Nat) (fl : List Nat) (ga : Option Addr) (gn gcap : Nat) (gl : List Nat) (q : Int) (w : World) (hf : Sl w fa fn fcap fl) (hg : Sl w ga gn gcap gl)
    (hp0 : 0 < p) (hp : p < 4294967296) (hgb : ∀ i, nth gl i ≤ p) (hfn : fn ≤ 1099511627776) (hgn : gn ≤ 1099511627776) :
    Calls Tryd.prog 33 #[.agg #[.int .u32 p, .slice fa fn fcap], .agg #[.int .u32 q, .slice ga gn gcap]] w
      (RetP p (trim ((List.range (max fn gn)).map fun i => subM p (nth fl i) (nth gl i))) [] w) := by
  have HGB := Alg.hid hgb
  clear hgb
  go_enter Tryd.func33, Tryd.ntmps33
  go_wp2_with fail
  have hbx := boxes3 w #[.int .u32 (p : Int), .slice fa fn fcap] #[.int .u32 q, .slice ga gn gcap] #[.int .u32 0, .slice none 0 0] 25 25 25
  refine (zip_Sub p fa fn fcap fl ga gn gcap gl q w.heap.size _ (hf.mono hbx.below) (hg.mono hbx.below) (hbx.cell' 0 0 _ _ rfl rfl) hp0 hp HGB.out hfn hgn).mono ?_
  rintro e w' ⟨a', n', cap', rfl, hs', hb', hpv⟩
  have hbx' := hbx.mono hb'
  have hsz := hbx.size
  simp at hsz
  have e0 : w'.cell? ⟨w.heap.size + 1 + 1, 0, none⟩ = some (.int .u32 0) := hbx'.cell' 2 0 _ _ rfl rfl
  have e1 : w'.cell? ⟨w.heap.size + 1 + 1, 1, none⟩ = some (.slice none 0 0) := hbx'.cell' 2 1 _ _ rfl rfl
  have e2 : w'.frozen? ⟨w.heap.size + 1 + 1, 0, none⟩ = false := hbx'.frozen' 2 0 (by simp)
  have e3 : w'.frozen? ⟨w.heap.size + 1 + 1, 1, none⟩ = false := hbx'.frozen' 2 1 (by simp)
  have hof : Off a' n' (w.heap.size + 1 + 1) := hpv.off0 (by simp)
  go_wp2
  (try simp only [Exit.inBlock, Exit.then])
  refine bodyPost_ret (v := .agg #[.int .u32 (p : Int), .slice a' n' cap']) (by simp [results, Tryd.results33, go_sem, e0, e1]) rfl ?_
  exact ⟨_, _, _, rfl, (hs'.setCell hof _).setCell hof _, ((hbx'.below.setCell (p := ⟨w.heap.size + 1 + 1, 0, none⟩) (by simp; omega) _).setCell (p := ⟨w.heap.size + 1 + 1, 1, none⟩) (by simp; omega) _), hpv.mono hbx.below.size⟩
set_option maxHeartbeats 400000 in
theorem ppoly_Scale (p c : Nat) (fa : Option Addr) (fn fcap : Nat) (fl : List Nat) (w : World) (hf : Sl w fa fn fcap fl)
    (hp0 : 0 < p) (hp : p < 4294967296) (hcc : c < 4294967296) (hfn : fn ≤ 1099511627776) :
    Calls Tryd.prog 30 #[.agg #[.int .u32 p, .slice fa fn fcap], .int .u32 c] w
      (RetP p (trim ((List.range fn).map fun i => mulM p (nth fl i) c)) [] w) := by
  have hbx := boxes3 w #[.int .u32 (p : Int), .slice fa fn fcap] #[.int .u32 (c : Int)] #[.int .u32 0, .slice none 0 0] 25 22 25
  have hbx2 := hbx.less 2
  have K : Hid (∀ W, Boxes w W [#[.int .u32 (p : Int), .slice fa fn fcap], #[.int .u32 (c : Int)]] → W.cell? ⟨w.heap.size, 0, none⟩ = some (.int .u32 (p : Int)) ∧ W.cell? ⟨w.heap.size, 1, none⟩ = some (.slice fa fn fcap) ∧ Boxes w W [#[.int .u32 (p : Int), .slice fa fn fcap], #[.int .u32 (c : Int)]]) :=
    fun W h => ⟨h.cell' 0 0 _ _ rfl rfl, h.cell' 0 1 _ _ rfl rfl, h⟩
  go_enter Tryd.func30, Tryd.ntmps30
  go_wp2
  go_region_held3 (fun W => W.cell? ⟨w.heap.size, 0, none⟩ = some (.int .u32 (p : Int)) ∧ W.cell? ⟨w.heap.size, 1, none⟩ = some (.slice fa fn fcap) ∧ Boxes w W [#[.int .u32 (p : Int), .slice fa fn fcap], #[.int .u32 (c : Int)]])
    (first | (exact K.out _ (by assumption)) | (exact K.out _ hbx2.drew) | (exact K.out _ (Boxes.setCell (Boxes.setCell (by assumption) (by simp) _) (by simp) _)))
    (first
      | (go_at_call 60; refine (ppoly_of p none 0 0 [] _ (Sl.of_nil _ _ _ (by omega))).mono ?_; rintro e w1 ⟨a1, n1, cap1, rfl, hs1, hb1, hpv1⟩; have hx1 := hbx.drew.mono hb1; have hx1' := hx1.less 2)
      | (go_at_call 64; refine (zip_Scale p fa fn fcap fl a1 n1 cap1 [] p w.heap.size c (w.heap.size + 1) hcc _ (hf.mono hx1.below) hs1 (hx1.cell' 0 0 _ _ rfl rfl) (hx1.cell' 1 0 _ _ rfl rfl) hp0 hp hs1.lt hfn (by have := hs1.len; simp [trim] at this; omega)).mono ?_; rintro e w2 ⟨a', n', cap', rfl, hs', hb', hpv⟩; have hx2 := hx1.mono hb'; have hx2' := hx2.less 2; have e0 : w2.cell? ⟨w.heap.size + 1 + 1, 0, none⟩ = some (.int .u32 0) := hx2.cell' 2 0 _ _ rfl rfl; have e1 : w2.cell? ⟨w.heap.size + 1 + 1, 1, none⟩ = some (.slice none 0 0) := hx2.cell' 2 1 _ _ rfl rfl; have e2 : w2.frozen? ⟨w.heap.size + 1 + 1, 0, none⟩ = false := hx2.frozen' 2 0 (by simp); have e3 : w2.frozen? ⟨w.heap.size + 1 + 1, 1, none⟩ = false := hx2.frozen' 2 1 (by simp)))
  all_goals
    go_wp2
    (try simp only [Exit.inBlock, Exit.then])
    refine bodyPost_ret (v := .agg #[.int .u32 (p : Int), .slice a' n' cap']) (by simp [results, Tryd.results30, go_sem, e0, e1]) rfl ?_
    have hn1 : n1 = 0 := by have := hs1.len; simpa [trim] using this.symm
    subst hn1
    rw [Nat.max_zero] at hs'
    have hof : Off a' n' (w.heap.size + 1 + 1) := hpv.off0 (by have := hx1.size; simp at this; omega)
    exact ⟨_, _, _, rfl, (hs'.setCell hof _).setCell hof _, ((hx2.below.setCell (p := ⟨w.heap.size + 1 + 1, 0, none⟩) (by simp; omega) _).setCell (p := ⟨w.heap.size + 1 + 1, 1, none⟩) (by simp; omega) _), hpv.mono hx1.below.size⟩
end Go.Proofs.YtcefhnmhcapccaaDoor
