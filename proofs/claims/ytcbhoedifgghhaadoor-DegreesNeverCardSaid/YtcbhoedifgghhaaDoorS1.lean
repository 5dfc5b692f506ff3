/- Contracts of the reference's Add, Sub, Diff. Contract of ppoly.Diff. Laws of sums, products, values, derivatives of lists of coefficients. The walk of PpolyRing. Contract of the reference's Mul. Contracts of the reference's Value and Diff. Contracts of both Monics. The walk of PpolySums. -/
import Derived.Test.YtcbhoedifgghhaaDoorE2
import Derived.Test.YtcbhoedifgghhaaDoorA9
import Derived.Test.YtcbhoedifgghhaaDoorW15
import Derived.Test.YtcbhoedifgghhaaDoorE4
import Derived.Test.YtcbhoedifgghhaaDoorW28
import Derived.Test.YtcbhoedifgghhaaDoorW29
import Derived.Test.YtcbhoedifgghhaaDoorHH
section
open Alg
namespace Go.Proofs.YtcbhoedifgghhaaDoor
open Go.RowKit
set_option maxRecDepth 100000 in
set_option maxHeartbeats 1000000 in
theorem ref_Add (p : Nat) (fa : Option Addr) (fn fcap : Nat) (fl : List Nat) (ga : Option Addr) (gn gcap : Nat) (gl : List Nat) (q : Int) (w : World) (hf : Sl w fa fn fcap fl) (hg : Sl w ga gn gcap gl)
    (hp0 : 0 < p) (hp : p < 4294967296) (hfn : fn ≤ 1099511627776) (hgn : gn ≤ 1099511627776) :
    Calls Tryd.prog 44 #[.agg #[.int .u32 p, .slice fa fn fcap], .agg #[.int .u32 q, .slice ga gn gcap]] w
      (RetP p (trim ((List.range (max fn gn)).map fun i => addM p (nth fl i) (nth gl i))) [] w) := by
  obtain ⟨i0, hi, hz0, hz1, hz2⟩ := info_parts Tryd.infoU'
  obtain ⟨n, hn⟩ : ∃ n, n = max fn gn := ⟨_, rfl⟩
  rw [← hn]
  have hfle : fn ≤ n := by omega
  have hgle : gn ≤ n := by omega
  have hor : n = fn ∨ n = gn := by omega
  clear hn
  have hbx := boxes3 w #[.int .u32 (p : Int), .slice fa fn fcap] #[.int .u32 q, .slice ga gn gcap] #[.int .u32 0, .slice none 0 0] 25 25 25
  have K : Hid (∀ W, Boxes w W [#[.int .u32 (p : Int), .slice fa fn fcap], #[.int .u32 q, .slice ga gn gcap], #[.int .u32 0, .slice none 0 0]] → W.cell? ⟨w.heap.size, 0, none⟩ = some (.int .u32 (p : Int)) ∧ W.cell? ⟨w.heap.size, 1, none⟩ = some (.slice fa fn fcap) ∧ W.cell? ⟨w.heap.size + 1, 0, none⟩ = some (.int .u32 q) ∧ W.cell? ⟨w.heap.size + 1, 1, none⟩ = some (.slice ga gn gcap) ∧ Boxes w W [#[.int .u32 (p : Int), .slice fa fn fcap], #[.int .u32 q, .slice ga gn gcap], #[.int .u32 0, .slice none 0 0]]) :=
    fun W h => ⟨h.cell' 0 0 _ _ rfl rfl, h.cell' 0 1 _ _ rfl rfl, h.cell' 1 0 _ _ rfl rfl, h.cell' 1 1 _ _ rfl rfl, h⟩
  go_enter Tryd.func44, Tryd.ntmps44
  go_wp2
  go_loopw [5, 6] (fun v i wr => ∃ k : Nat, i = .int .i64 k ∧ k ≤ n ∧ Gr wr 22 (w.heap.size + 3) v k ((List.range k).map fun i => addM p (nth fl i) (nth gl i)) ∧ Boxes w wr [#[.int .u32 (p : Int), .slice fa fn fcap], #[.int .u32 q, .slice ga gn gcap], #[.int .u32 0, .slice none 0 0]]) (fun _ i _ => n - (intOf i).toNat)
  case atStart => exact ⟨0, rfl, Nat.zero_le _, Gr.nil _ _ _, hbx⟩
  case round =>
    clear hbx
    obtain ⟨k, rfl, hk, hG, hbx⟩ := hrel
    have d0 : wr.cell? ⟨w.heap.size, 0, none⟩ = some (.int .u32 (p : Int)) := hbx.cell' 0 0 _ _ rfl rfl
    have d1 : wr.cell? ⟨w.heap.size, 1, none⟩ = some (.slice fa fn fcap) := hbx.cell' 0 1 _ _ rfl rfl
    have d2 : wr.cell? ⟨w.heap.size + 1, 1, none⟩ = some (.slice ga gn gcap) := hbx.cell' 1 1 _ _ rfl rfl
    by_cases hkn : k < n
    · have hcase : k < fn ∨ (¬ k < fn ∧ k < gn) := by omega
      rcases hcase with h1 | ⟨h1, h2⟩
      all_goals
        go_wp2
        have l1 := hf.lt k
        have l2 := hg.lt k
        have hm := addM_lt p (nth fl k) (nth gl k) hp0
        have m1 : IntKind.u64.wrap ((nth fl k : Int) + (nth gl k : Int)) = (nth fl k : Int) + (nth gl k : Int) := IntWalk.u64_in _ (by omega)
        have m2 : ((nth fl k : Int) + (nth gl k : Int)).tmod (p : Int) = (addM p (nth fl k) (nth gl k) : Int) := by rw [Int.tmod_eq_emod_of_nonneg (by omega), addM_cast]
        have m4 : IntKind.u32.wrap (addM p (nth fl k) (nth gl k) : Int) = (addM p (nth fl k) (nth gl k) : Int) := IntWalk.u32_in _ (by omega)
        have m5 : IntKind.u64.wrap (p : Int) = (p : Int) := IntWalk.u64_in _ (by omega)
        have m7 : ((p : Int) == 0) = false := by simp; omega
        have m8 : ¬ p = 0 := by omega
        have q1 : k + 1 ≤ maxLen := by unfold maxLen; omega
        have q2 : (k + 1) * 4 ≤ 140737488355328 := by omega
        have q3 : ∀ u ∈ [Value.int .u32 (addM p (nth fl k) (nth gl k) : Int)], u.oneCell' = true := by simp [Value.oneCell']
        have HG := Alg.hid hG
        have Q3 := Alg.hid q3
        clear hG q3
        go_region_held3 (fun W => W.cell? ⟨w.heap.size, 0, none⟩ = some (.int .u32 (p : Int)) ∧ W.cell? ⟨w.heap.size, 1, none⟩ = some (.slice fa fn fcap) ∧ W.cell? ⟨w.heap.size + 1, 0, none⟩ = some (.int .u32 q) ∧ W.cell? ⟨w.heap.size + 1, 1, none⟩ = some (.slice ga gn gcap) ∧ Boxes w W [#[.int .u32 (p : Int), .slice fa fn fcap], #[.int .u32 q, .slice ga gn gcap], #[.int .u32 0, .slice none 0 0]])
          (first | (exact K.out _ (by assumption)) | (exact K.out _ hbx.drew) | (exact K.out _ (Boxes.alloc_any (by assumption) _)) | fail)
          (first
            | (go_at_call 78; with_reducible refine (ref_at p fa fn fcap fl k wr.drew ((hf.mono hbx.below).drew)).mono ?_; rintro e w1 ⟨rfl, hb1⟩; have hx1 := hbx.drew.mono hb1; have hG1 := HG.out.drew.mono hb1)
            | (go_at_call 78; with_reducible refine (ref_at q ga gn gcap gl k w1 (hg.mono hx1.below)).mono ?_; rintro e w2 ⟨rfl, hb2⟩; have hx2 := hx1.mono hb2; have hG2 := hG1.mono hb2)
            | (refine step_append_lies _ (by rfl) _ _ 23 (by rfl) (w.heap.size + 3) 22 i0 _ 1 4 Tryd.underlying23 hi hz0 hz1 hz2 rfl Nat.one_pos _ k (vals ((List.range k).map fun i => addM p (nth fl i) (nth gl i))) (by rfl) (hG2.own.alloc _) ⟨w2.heap.size, 0, none⟩ 1 1 [.int .u32 (addM p (nth fl k) (nth gl k) : Int)] (by rfl) (by rfl) news_one Q3.out Nat.one_pos q1 q2 (Nat.le_trans hx2.size (size_le_alloc _ _)) (w2.heap.size + 1) (World.size_alloc _ _) ?_; intro gg cap w3 hown2 hgrow hat hlt2; have hx3 := (hx2.alloc_any (.cells #[.int .u32 (addM p (nth fl k) (nth gl k) : Int)] 22)).grown hgrow (fun q e => HG.out.row q e)) | fail)
        clear m1 m2 m4 m5
        have HG2 := Alg.hid (Gr.snoc hown2 hG2.lt (by omega))
        clear hown2 hgrow hG2 hG1
        go_wp2
        go_roundw
        case rel => exact ⟨k + 1, by go_num, by omega, by rw [List.range_succ, List.map_append]; exact HG2.out, hx3⟩
        case measure => simp [intOf]; omega
    · have ek : k = n := by omega
      obtain ⟨a0, cap0, rfl, hs0, hg0⟩ := hG.sl
      have EK := Alg.hid ek
      have h1 : ¬ k < fn := by omega
      have h2 : ¬ k < gn := by omega
      clear ek hG
      go_wp2_with fail
      refine (ref_cut p _ k cap0 _ _ hs0).mono ?_
      rintro e w' ⟨a', n', cap', rfl, hs', hb', hpv⟩
      have hbx' := hbx.mono hb'
      have e0 : w'.cell? ⟨w.heap.size + 1 + 1, 0, none⟩ = some (.int .u32 0) := hbx'.cell' 2 0 _ _ rfl rfl
      have e1 : w'.cell? ⟨w.heap.size + 1 + 1, 1, none⟩ = some (.slice none 0 0) := hbx'.cell' 2 1 _ _ rfl rfl
      have e2 : w'.frozen? ⟨w.heap.size + 1 + 1, 0, none⟩ = false := hbx'.frozen' 2 0 (by simp)
      have e3 : w'.frozen? ⟨w.heap.size + 1 + 1, 1, none⟩ = false := hbx'.frozen' 2 1 (by simp)
      go_wp2
      (try simp only [Exit.inBlock, Exit.then])
      refine bodyPost_ret (v := .agg #[.int .u32 (p : Int), .slice a' n' cap']) (by simp [results, Tryd.results44, go_sem, e0, e1]) rfl ?_
      have hlen := hs0.len
      have hof : Off a' n' (w.heap.size + 1 + 1) := own_off hpv hg0 hs' (by have := hbx.size; simp at this; omega) (by omega)
      rw [← EK.out]
      exact ⟨_, _, _, rfl, (hs'.setCell hof _).setCell hof _, ((hbx'.below.setCell (p := ⟨w.heap.size + 1 + 1, 0, none⟩) (by simp; try omega) _).setCell (p := ⟨w.heap.size + 1 + 1, 1, none⟩) (by simp; try omega) _), own_prov hpv hg0 hs' hbx.below.size (by omega)⟩
def subL (p : Nat) (f g : List Nat) : List Nat := trim ((List.range (max f.length (trim ((List.range g.length).map fun i => mulM p (nth g i) (p - 1))).length)).map fun i => addM p (nth f i) (nth (trim ((List.range g.length).map fun i => mulM p (nth g i) (p - 1))) i))
set_option maxRecDepth 100000 in
set_option maxHeartbeats 1000000 in
theorem ref_Sub (p : Nat) (fa : Option Addr) (fn fcap : Nat) (fl : List Nat) (ga : Option Addr) (gn gcap : Nat) (gl : List Nat) (w : World) (hf : Sl w fa fn fcap fl) (hg : Sl w ga gn gcap gl)
    (hp0 : 0 < p) (hp : p < 4294967296) (hfn : fn ≤ 1099511627776) (hgn : gn ≤ 1099511627776) :
    Calls Tryd.prog 46 #[.agg #[.int .u32 p, .slice fa fn fcap], .agg #[.int .u32 p, .slice ga gn gcap]] w (RetP p (subL p fl gl) [] w) := by
  have hbx := boxes3 w #[.int .u32 (p : Int), .slice fa fn fcap] #[.int .u32 (p : Int), .slice ga gn gcap] #[.int .u32 0, .slice none 0 0] 25 25 25
  have hbxl := hbx.less 2
  have K : Hid (∀ W, Boxes w W [#[.int .u32 (p : Int), .slice fa fn fcap], #[.int .u32 (p : Int), .slice ga gn gcap]] → W.cell? ⟨w.heap.size, 0, none⟩ = some (.int .u32 (p : Int)) ∧ W.cell? ⟨w.heap.size, 1, none⟩ = some (.slice fa fn fcap) ∧ W.cell? ⟨w.heap.size + 1, 0, none⟩ = some (.int .u32 (p : Int)) ∧ W.cell? ⟨w.heap.size + 1, 1, none⟩ = some (.slice ga gn gcap) ∧ Boxes w W [#[.int .u32 (p : Int), .slice fa fn fcap], #[.int .u32 (p : Int), .slice ga gn gcap]]) :=
    fun W h => ⟨h.cell' 0 0 _ _ rfl rfl, h.cell' 0 1 _ _ rfl rfl, h.cell' 1 0 _ _ rfl rfl, h.cell' 1 1 _ _ rfl rfl, h⟩
  have m1 : IntKind.u32.wrap ((p : Int) - 1) = ((p - 1 : Nat) : Int) := by rw [IntWalk.u32_in _ (by omega)]; omega
  have M1 := Alg.hid m1
  clear m1
  have m2 : IntKind.u32.wrap ((p : Int) - 1) = (p : Int) - 1 := IntWalk.u32_in _ (by omega)
  have ml : ((List.range gn).map fun i => mulM p (nth gl i) (p - 1)).length = gn := by simp
  have ML := Alg.hid ml
  clear ml
  go_enter Tryd.func46, Tryd.ntmps46
  go_wp2
  go_region_held3 (fun W => W.cell? ⟨w.heap.size, 0, none⟩ = some (.int .u32 (p : Int)) ∧ W.cell? ⟨w.heap.size, 1, none⟩ = some (.slice fa fn fcap) ∧ W.cell? ⟨w.heap.size + 1, 0, none⟩ = some (.int .u32 (p : Int)) ∧ W.cell? ⟨w.heap.size + 1, 1, none⟩ = some (.slice ga gn gcap) ∧ Boxes w W [#[.int .u32 (p : Int), .slice fa fn fcap], #[.int .u32 (p : Int), .slice ga gn gcap]])
    (first | (exact K.out _ (by assumption)) | (exact K.out _ hbxl.drew) | (exact K.out _ (Boxes.setCell (Boxes.setCell (by assumption) (by simp) _) (by simp) _)) | fail)
    (first
      | (go_at_call 42; rw [show ((p : Int) - 1) = ((p - 1 : Nat) : Int) by omega]; refine (ref_Scale p (p - 1) ga gn gcap gl _ ((hg.mono hbx.below).drew) hp0 hp (by omega) hgn).mono ?_; rintro e w1 ⟨a1, n1, cap1, rfl, hs1, hb1, hpv1⟩; have hx1 := hbx.drew.mono hb1; have hx1' := hx1.less 2; have hn1 : n1 ≤ gn := by (have := hs1.len; have := trim_len ((List.range gn).map fun i => mulM p (nth gl i) (p - 1)); have := ML.out; omega))
      | (go_at_call 44; refine (ref_Add p fa fn fcap fl a1 n1 cap1 _ p w1 (hf.mono hx1.below) hs1 hp0 hp hfn (by omega)).mono ?_; rintro e w' ⟨a', n', cap', rfl, hs', hb', hpv⟩; have hbx' := hx1.mono hb'; have hbx2' := hbx'.less 2; have e0 : w'.cell? ⟨w.heap.size + 1 + 1, 0, none⟩ = some (.int .u32 0) := hbx'.cell' 2 0 _ _ rfl rfl; have e1 : w'.cell? ⟨w.heap.size + 1 + 1, 1, none⟩ = some (.slice none 0 0) := hbx'.cell' 2 1 _ _ rfl rfl; have e2 : w'.frozen? ⟨w.heap.size + 1 + 1, 0, none⟩ = false := hbx'.frozen' 2 0 (by simp); have e3 : w'.frozen? ⟨w.heap.size + 1 + 1, 1, none⟩ = false := hbx'.frozen' 2 1 (by simp)) | fail)
  all_goals
    go_wp2
    (try simp only [Exit.inBlock, Exit.then])
    refine bodyPost_ret (v := .agg #[.int .u32 (p : Int), .slice a' n' cap']) (by simp [results, Tryd.results46, go_sem, e0, e1]) rfl ?_
    have hof : Off a' n' (w.heap.size + 1 + 1) := hpv.off0 (by have := hx1.size; simp at this; omega)
    have e4 : subL p fl gl = trim ((List.range (max fn n1)).map fun i => addM p (nth fl i) (nth (trim ((List.range gn).map fun i => mulM p (nth gl i) (p - 1))) i)) := by unfold subL; rw [hf.len, hg.len, hs1.len]
    rw [e4]
    exact ⟨_, _, _, rfl, (hs'.setCell hof _).setCell hof _, ((hbx'.below.setCell (p := ⟨w.heap.size + 1 + 1, 0, none⟩) (by simp; try omega) _).setCell (p := ⟨w.heap.size + 1 + 1, 1, none⟩) (by simp; try omega) _), hpv.mono hx1.below.size⟩
end Go.Proofs.YtcbhoedifgghhaaDoor
end
section
section
open Alg Go Go.RowKit
namespace Alg
/-- one coefficient of the derivative -/
def dfC (p : Nat) (l : List Nat) (j : Nat) : Nat := mulM p (nth l (j + 1)) ((j + 1) % p)
def dfL (p : Nat) (l : List Nat) : List Nat := trim ((List.range (l.length - 1)).map (dfC p l))
end Alg
namespace Go.Proofs.YtcbhoedifgghhaaDoor
open Go.RowKit
set_option maxRecDepth 100000 in
set_option maxHeartbeats 600000 in
theorem ppoly_Diff (p : Nat) (fa : Option Addr) (fn fcap : Nat) (fl : List Nat) (w : World) (hf : Sl w fa fn fcap fl)
    (hp0 : 0 < p) (hp : p < 4294967296) (hfn : fn ≤ 1099511627776) :
    Calls Tryd.prog 39 #[.agg #[.int .u32 p, .slice fa fn fcap]] w (RetP p (dfL p fl) [] w) := by
  obtain ⟨i0, hi, hz0, hz1, hz2⟩ := info_parts Tryd.infoU'
  have hbx := boxes2 w #[.int .u32 (p : Int), .slice fa fn fcap] #[.int .u32 0, .slice none 0 0] 25 25
  have K : Hid (∀ W, Boxes w W [#[.int .u32 (p : Int), .slice fa fn fcap], #[.int .u32 0, .slice none 0 0]] → W.cell? ⟨w.heap.size, 0, none⟩ = some (.int .u32 (p : Int)) ∧ W.cell? ⟨w.heap.size, 1, none⟩ = some (.slice fa fn fcap) ∧ Boxes w W [#[.int .u32 (p : Int), .slice fa fn fcap], #[.int .u32 0, .slice none 0 0]]) :=
    fun W h => ⟨h.cell' 0 0 _ _ rfl rfl, h.cell' 0 1 _ _ rfl rfl, h⟩
  have hl := hf.len
  go_enter Tryd.func39, Tryd.ntmps39
  go_wp2
  go_loopw [3, 9] (fun v i wr => ∃ k : Nat, i = .int .i64 k ∧ k ≤ fn ∧ Gr wr 22 (w.heap.size + 2) v (k - 1) ((List.range (k - 1)).map (dfC p fl)) ∧ Boxes w wr [#[.int .u32 (p : Int), .slice fa fn fcap], #[.int .u32 0, .slice none 0 0]]) (fun _ i _ => fn - (intOf i).toNat)
  case atStart => exact ⟨0, rfl, Nat.zero_le _, Gr.nil _ _ _, hbx⟩
  case round =>
    clear hbx
    obtain ⟨k, rfl, hk, hG, hbx⟩ := hrel
    have d0 : wr.cell? ⟨w.heap.size, 0, none⟩ = some (.int .u32 (p : Int)) := hbx.cell' 0 0 _ _ rfl rfl
    have d1 : wr.cell? ⟨w.heap.size, 1, none⟩ = some (.slice fa fn fcap) := hbx.cell' 0 1 _ _ rfl rfl
    by_cases hkn : k < fn
    · rcases hf.rd with h0 | ⟨b, off, rfl, hc⟩
      · omega
      have c1 : wr.cell? ⟨b, off + k, none⟩ = some (.int .u32 (nth fl k : Nat)) := (hbx.below.cell (p := ⟨b, off + k, none⟩) (cell_lt (hc k hkn))).trans (hc k hkn)
      have hlt := hf.lt k
      clear hc
      by_cases hk0 : k = 0
      · have HG := Alg.hid hG
        have hkp : ¬ (0 : Int) < (k : Int) := by omega
        have HK := Alg.hid (show k + 1 - 1 = k - 1 by omega)
        clear hG hk0
        go_wp2
        go_roundw
        case rel => exact ⟨k + 1, by go_num, by omega, by rw [HK.out]; exact HG.out, hbx⟩
        case measure => simp [intOf]; omega
      · have hkp : (0 : Int) < (k : Int) := by omega
        obtain ⟨km, hkm⟩ : ∃ km, km = k % p := ⟨_, rfl⟩
        have HM : Hid (mulM p (nth fl k) km = dfC p fl (k - 1)) := by show _ = mulM p (nth fl (k - 1 + 1)) ((k - 1 + 1) % p); rw [hkm, show k - 1 + 1 = k by omega]
        have hmod : km < 4294967296 := by have := Nat.mod_lt k hp0; omega
        have hmM := mulM_lt p (nth fl k) km hp0
        have m1 : (k : Int).tmod (p : Int) = (km : Int) := by rw [hkm, Int.tmod_eq_emod_of_nonneg (by omega)]; simp
        have m2 : IntKind.i64.wrap (p : Int) = (p : Int) := IntWalk.i64_in _ (by omega)
        have m3 : IntKind.u32.wrap (km : Int) = (km : Int) := IntWalk.u32_in _ (by omega)
        have m4 : IntKind.i64.wrap (km : Int) = (km : Int) := IntWalk.i64_in _ (by omega)
        clear hkm
        have m7 : ((p : Int) == 0) = false := by simp; omega
        have m8 : ¬ p = 0 := by omega
        have q1 : k - 1 + 1 ≤ maxLen := by unfold maxLen; omega
        have q2 : (k - 1 + 1) * 4 ≤ 140737488355328 := by omega
        have q3 : ∀ u ∈ [Value.int .u32 (mulM p (nth fl k) km : Int)], u.oneCell' = true := by simp [Value.oneCell']
        have HG := Alg.hid hG
        have Q3 := Alg.hid q3
        clear hG q3
        go_wp2
        go_region_held3 (fun W => W.cell? ⟨w.heap.size, 0, none⟩ = some (.int .u32 (p : Int)) ∧ W.cell? ⟨w.heap.size, 1, none⟩ = some (.slice (some ⟨b, off, none⟩) fn fcap) ∧ Boxes w W [#[.int .u32 (p : Int), .slice (some ⟨b, off, none⟩) fn fcap], #[.int .u32 0, .slice none 0 0]])
          (first | (exact K.out _ (by assumption)) | (exact K.out _ hbx.drew) | (exact K.out _ (Boxes.alloc_any (by assumption) _)) | fail)
          (first
            | (go_at_call 68; refine (modp_Mul p (nth fl k) km wr.drew hp0 hp hlt hmod).mono ?_; rintro e w1 ⟨rfl, hw⟩; have hx1 : Boxes w w1 [#[.int .u32 (p : Int), .slice (some ⟨b, off, none⟩) fn fcap], #[.int .u32 0, .slice none 0 0]] := (by rw [hw]; exact hbx.drew); have hG1 := HG.out.drew; rw [← hw] at hG1; clear hw)
            | (refine step_append_lies _ (by rfl) _ _ 23 (by rfl) (w.heap.size + 2) 22 i0 _ 1 4 Tryd.underlying23 hi hz0 hz1 hz2 rfl Nat.one_pos _ (k - 1) (vals ((List.range (k - 1)).map (dfC p fl))) (by rfl) (hG1.own.alloc _) ⟨w1.heap.size, 0, none⟩ 1 1 [.int .u32 (mulM p (nth fl k) km : Int)] (by rfl) (by rfl) news_one Q3.out Nat.one_pos q1 q2 (Nat.le_trans hx1.size (size_le_alloc _ _)) (w1.heap.size + 1) (World.size_alloc _ _) ?_; intro gg cap w2 hown2 hgrow hat hlt2; have hx2 := (hx1.alloc_any (.cells #[.int .u32 (mulM p (nth fl k) km : Int)] 22)).grown hgrow (fun q e => HG.out.row q e)) | fail)
        clear m1 m2 m3 m4
        have hG2 := Gr.snoc hown2 hG1.lt (by omega)
        have ek : k - 1 + 1 = k := by omega
        rw [HM.out] at hG2
        have HG2 := Alg.hid hG2
        have EK := Alg.hid ek
        clear hG2 hG1 hown2 hgrow ek
        go_wp2
        go_roundw
        case rel =>
          refine ⟨k + 1, by go_num, by omega, ?_, hx2⟩
          have h9 := HG2.out
          have e9 : (List.range (k + 1 - 1)).map (dfC p fl) = (List.range (k - 1)).map (dfC p fl) ++ [dfC p fl (k - 1)] := by
            rw [show k + 1 - 1 = k - 1 + 1 by omega, List.range_succ, List.map_append, List.map_cons, List.map_nil]
          rw [e9, show k + 1 - 1 = k - 1 + 1 by omega]
          exact h9
        case measure => simp [intOf]; omega
    · have ek : k = fn := by omega
      obtain ⟨a0, cap0, rfl, hs0, hg0⟩ := hG.sl
      have EK := Alg.hid ek
      clear ek hG
      go_wp2_with fail
      refine (ppoly_of p _ (k - 1) cap0 _ _ hs0).mono ?_
      rintro e w' ⟨a', n', cap', rfl, hs', hb', hpv⟩
      have hbx' := hbx.mono hb'
      have e0 : w'.cell? ⟨w.heap.size + 1, 0, none⟩ = some (.int .u32 0) := hbx'.cell' 1 0 _ _ rfl rfl
      have e1 : w'.cell? ⟨w.heap.size + 1, 1, none⟩ = some (.slice none 0 0) := hbx'.cell' 1 1 _ _ rfl rfl
      have e2 : w'.frozen? ⟨w.heap.size + 1, 0, none⟩ = false := hbx'.frozen' 1 0 (by simp)
      have e3 : w'.frozen? ⟨w.heap.size + 1, 1, none⟩ = false := hbx'.frozen' 1 1 (by simp)
      go_wp2
      (try simp only [Exit.inBlock, Exit.then])
      refine bodyPost_ret (v := .agg #[.int .u32 (p : Int), .slice a' n' cap']) (by simp [results, Tryd.results39, go_sem, e0, e1]) rfl ?_
      have hlen := hs0.len
      have hof : Off a' n' (w.heap.size + 1) := own_off hpv hg0 hs' (by have := hbx.size; simp at this; omega) (by omega)
      have eR : dfL p fl = trim ((List.range (k - 1)).map (dfC p fl)) := by unfold dfL; rw [hl, EK.out]
      rw [eR]
      exact ⟨_, _, _, rfl, (hs'.setCell hof _).setCell hof _, ((hbx'.below.setCell (p := ⟨w.heap.size + 1, 0, none⟩) (by simp) _).setCell (p := ⟨w.heap.size + 1, 1, none⟩) (by simp) _), own_prov hpv hg0 hs' hbx.below.size (by omega)⟩
end Go.Proofs.YtcbhoedifgghhaaDoor
end
section
open Alg
namespace Alg
open Poly
section
variable {p : Nat} [NeZero p]
theorem valB_back (a : Nat) (l : List Nat) : ∀ k, k ≤ l.length → (Fp.of (valB p a (backL l l.length k)) : Fp p) = ev (Fp.of a) (pol p (l.drop (l.length - k)))
  | 0, _ => by
    have : l.drop (l.length - 0) = [] := by rw [Nat.sub_zero, List.drop_length]
    rw [this, pol_nil, ev_zero]
    exact Fp.of_zero
  | k + 1, h => by
    have ih := valB_back a l k (by omega)
    have e : l.length - k = l.length - (k + 1) + 1 := by omega
    rw [backL_succ, valB_snoc, of_addM, of_mulM, ih, show l.length - 1 - k = l.length - (k + 1) by omega, e, pol_drop l (l.length - (k + 1)), ev_add, ev_C, ev_mul, ev_X, CR.pw_one]
    rw [CR.add_comm, CR.mul_comm (Fp.of a)]
    rfl
theorem valL_ev (l : List Nat) (a : Nat) : (Fp.of (valL p l a) : Fp p) = ev (Fp.of a) (pol p l) := by
  unfold valL
  rw [valB_back a l _ (Nat.le_refl _), Nat.sub_self, List.drop_zero]
theorem valL_lt (l : List Nat) (a : Nat) : valL p l a < p := valB_lt _ _ _ (Nat.pos_of_ne_zero (NeZero.ne p))
theorem dfL_ok (l : List Nat) : pol p (dfL p l) = D (pol p l) ∧ Canon p (dfL p l) := by
  unfold dfL
  refine ⟨?_, range_canon _ _ fun i => mulM_lt _ _ _ (Nat.pos_of_ne_zero (NeZero.ne p))⟩
  rw [pol_trim]
  refine pol_diff l (dfC p l) fun i _ => ?_
  rw [dfC, of_mulM, Fp.of_mod, CR.mul_comm]
  rfl
theorem ring_assoc (f g h : List Nat) : mulL p (mulL p f g) h = mulL p f (mulL p g h) :=
  canon_ext (mulL_ok (p := p) _ _).2 (mulL_ok (p := p) _ _).2 (by rw [(mulL_ok _ _).1, (mulL_ok _ _).1, (mulL_ok _ _).1, (mulL_ok _ _).1, CR.mul_assoc])
theorem ring_comm (f g : List Nat) : mulL p f g = mulL p g f :=
  canon_ext (mulL_ok (p := p) _ _).2 (mulL_ok (p := p) _ _).2 (by rw [(mulL_ok _ _).1, (mulL_ok _ _).1, CR.mul_comm])
theorem ring_dist (f g h : List Nat) : mulL p f (addL p g h) = addL p (mulL p f g) (mulL p f h) :=
  canon_ext (mulL_ok (p := p) _ _).2 (addL_ok' (p := p) _ _).2 (by rw [(mulL_ok _ _).1, (addL_ok' _ _).1, (addL_ok' _ _).1, (mulL_ok _ _).1, (mulL_ok _ _).1, CR.mul_add])
theorem ring_diff (f g : List Nat) : dfL p (mulL p f g) = addL p (mulL p (dfL p f) g) (mulL p f (dfL p g)) :=
  canon_ext (dfL_ok (p := p) _).2 (addL_ok' (p := p) _ _).2 (by rw [(dfL_ok _).1, (mulL_ok _ _).1, (addL_ok' _ _).1, (mulL_ok _ _).1, (mulL_ok _ _).1, (dfL_ok _).1, (dfL_ok _).1, D_mul])
theorem val_mul (f g : List Nat) (a : Nat) : valL p (mulL p f g) a = valL p f a * valL p g a % p := by
  refine Fp.of_inj (p := p) (valL_lt _ _) (Nat.mod_lt _ (Nat.pos_of_ne_zero (NeZero.ne p))) ?_
  rw [Fp.of_mod, Fp.of_mul, valL_ev, valL_ev, valL_ev, (mulL_ok _ _).1, ev_mul]
theorem val_add (f g : List Nat) (a : Nat) : valL p (addL p f g) a = (valL p f a + valL p g a) % p := by
  refine Fp.of_inj (p := p) (valL_lt _ _) (Nat.mod_lt _ (Nat.pos_of_ne_zero (NeZero.ne p))) ?_
  rw [Fp.of_mod, Fp.of_add, valL_ev, valL_ev, valL_ev, (addL_ok' _ _).1, ev_add]
omit [NeZero p] in
theorem dfL_len (l : List Nat) : (dfL p l).length ≤ l.length := Nat.le_trans (range_le (Nat.le_refl _)) (Nat.sub_le _ _)
end
end Alg
end
section
open Alg Go Go.RowKit
namespace Go.Proofs.YtcbhoedifgghhaaDoor
open Go.RowKit
theorem ppoly_AddL (p : Nat) (fa : Option Addr) (fn fcap : Nat) (fl : List Nat) (ga : Option Addr) (gn gcap : Nat) (gl : List Nat) (q : Int) (w : World) (hf : Sl w fa fn fcap fl) (hg : Sl w ga gn gcap gl)
    (hp0 : 0 < p) (hp : p < 4294967296) (hfn : fn ≤ 1099511627776) (hgn : gn ≤ 1099511627776) :
    Calls Tryd.prog 43 #[.agg #[.int .u32 p, .slice fa fn fcap], .agg #[.int .u32 q, .slice ga gn gcap]] w (RetP p (addL p fl gl) [] w) := by
  unfold addL
  rw [hf.len, hg.len]
  exact ppoly_Add p fa fn fcap fl ga gn gcap gl q w hf hg hp0 hp hfn hgn
end Go.Proofs.YtcbhoedifgghhaaDoor
end
section
open Alg Go Go.RowKit
namespace Go.Proofs.YtcbhoedifgghhaaDoor
open Go.RowKit
theorem Tryd.infoU34 : (Tryd.prog.info? 22).map (fun i => (i.zero, i.size, i.bytes)) = some (some (.int .u32 0), 1, 4) := by kernel_rfl
set_option maxRecDepth 100000 in
set_option maxHeartbeats 1000000 in
theorem ref_Mul1 (p : Nat) (fa : Option Addr) (fn fcap : Nat) (fl : List Nat) (ga : Option Addr) (gn gcap : Nat) (gl : List Nat) (q : Int) (w : World) (hf : Sl w fa fn fcap fl) (hg : Sl w ga gn gcap gl)
    (hf0 : 0 < fn) (hg0 : 0 < gn) (hp0 : 0 < p) (hp : p < 4294967296) (hfn : fn ≤ 1099511627776) (hgn : gn ≤ 1099511627776) (cf : ∀ i, nth fl i < p) (cg : ∀ i, nth gl i < p) :
    Calls Tryd.prog 47 #[.agg #[.int .u32 p, .slice fa fn fcap], .agg #[.int .u32 q, .slice ga gn gcap]] w (RetP p (trim (outerM p fl gl (fn + gn - 1) fn)) [] w) := by
  obtain ⟨i0, hi, hz0, hz1, hz2⟩ := info_parts Tryd.infoU34
  obtain ⟨n, hn⟩ : ∃ n, n = fn + gn - 1 := ⟨_, rfl⟩
  rw [← hn]
  have hn1 : n + 1 ≤ fn + gn := by omega
  have hn2 : fn + gn ≤ n + 1 := by omega
  clear hn
  have hL : (fn : Int) + (gn : Int) - 1 = (n : Int) := by omega
  have hfb : ((fn : Int) == 0) = false := by simp; omega
  have hgb : ((gn : Int) == 0) = false := by simp; omega
  have HL := Alg.hid hL
  have CF := Alg.hid cf
  have CG := Alg.hid cg
  clear hL cf cg
  rcases hf.rd with h0 | ⟨b, off, rfl, hcf⟩
  · omega
  rcases hg.rd with h0 | ⟨b', off', rfl, hcg⟩
  · omega
  clear hcf hcg
  go_enter Tryd.func47, Tryd.ntmps47
  go_wp2_with (at_make; refine wpList_make_full _ rfl _ _ 23 rfl w.heap.size 22 i0 (.int .u32 0) 1 Tryd.underlying23 hi hz0 hz1 .i64 .i64 _ _ n rfl rfl HL.out HL.out (by rw [hz2]; omega) (by unfold maxLen; omega) (by simp; omega) ?_; rw [madeCells_u32]; intro w1 hown hgr; simp only [World.size_alloc] at hown; have hbx := (boxes3 w _ _ _ _ _ _).mono (below_grown hgr); clear hgr; have hA : Arr w1 22 w.heap.size (w.heap.size + 1 + 1 + 1) n n (List.replicate n 0) := ⟨hown, fun i => by rw [← upto_zero (fun _ => 0) n, nth_upto]; split <;> decide⟩; clear hown; have d0 : w1.cell? ⟨w.heap.size, 0, none⟩ = some (.int .u32 (p : Int)) := hbx.cell' 0 0 _ _ rfl rfl; have d1 : w1.cell? ⟨w.heap.size, 1, none⟩ = some (.slice (some ⟨b, off, none⟩) fn fcap) := hbx.cell' 0 1 _ _ rfl rfl)
  go_loopw [6] (fun v wr => ∃ i : Nat, v = .int .i64 i ∧ i ≤ fn ∧ Arr wr 22 w.heap.size (w.heap.size + 1 + 1 + 1) n n (outerM p fl gl n i) ∧ Boxes w wr [#[.int .u32 (p : Int), .slice (some ⟨b, off, none⟩) fn fcap], #[.int .u32 q, .slice (some ⟨b', off', none⟩) gn gcap], #[.int .u32 0, .slice none 0 0]]) (fun v _ => fn - (intOf v).toNat)
  case atStart => exact ⟨0, rfl, Nat.zero_le _, hA, hbx⟩
  case round =>
    clear hA hbx d0 d1
    obtain ⟨i, rfl, hik, hA, hbx⟩ := hrel
    obtain ⟨wo, rfl⟩ : ∃ wo : World, wo = wr := ⟨_, rfl⟩
    have d0 : wo.cell? ⟨w.heap.size, 0, none⟩ = some (.int .u32 (p : Int)) := hbx.cell' 0 0 _ _ rfl rfl
    have d1 : wo.cell? ⟨w.heap.size, 1, none⟩ = some (.slice (some ⟨b, off, none⟩) fn fcap) := hbx.cell' 0 1 _ _ rfl rfl
    have hB := hbx.below
    by_cases hin : i < fn
    · have HA := Alg.hid hA
      clear hA
      go_wp2
      go_loopw [7] (fun v wr => ∃ k : Nat, v = .int .i64 k ∧ k ≤ gn ∧ Arr wr 22 w.heap.size (w.heap.size + 1 + 1 + 1) n n (innerM p (nth fl i) i gl (outerM p fl gl n i) k) ∧ Boxes w wr [#[.int .u32 (p : Int), .slice (some ⟨b, off, none⟩) fn fcap], #[.int .u32 q, .slice (some ⟨b', off', none⟩) gn gcap], #[.int .u32 0, .slice none 0 0]]) (fun v _ => gn - (intOf v).toNat)
      case atStart => exact ⟨0, rfl, Nat.zero_le _, HA.out, hbx⟩
      case round =>
        clear hbx d0 d1 hB HA
        obtain ⟨k, rfl, hkk, hA, hbx⟩ := hrel
        have d2 : wr.cell? ⟨w.heap.size + 1, 1, none⟩ = some (.slice (some ⟨b', off', none⟩) gn gcap) := hbx.cell' 1 1 _ _ rfl rfl
        by_cases hkn : k < gn
        · have hik2 : i + k < n := by omega
          have cA0 := hA.cell hik2
          have lA := hA.lt (i + k)
          obtain ⟨cA, hcA⟩ : ∃ x, nth (innerM p (nth fl i) i gl (outerM p fl gl n i) k) (i + k) = x := ⟨_, rfl⟩
          rw [hcA] at cA0 lA
          have HCA := Alg.hid hcA
          have HA := Alg.hid hA
          clear hA
          go_wp2
          have bf := CF.out i
          have bg := CG.out k
          obtain ⟨xF, hxF⟩ : ∃ x, nth fl i = x := ⟨_, rfl⟩
          obtain ⟨xG, hxG⟩ : ∃ x, nth gl k = x := ⟨_, rfl⟩
          rw [hxF] at bf
          rw [hxG] at bg
          have HXF := Alg.hid hxF
          have HXG := Alg.hid hxG
          clear hxF hxG hcA
          obtain ⟨bb1, bb2⟩ := cMul_le (a := xF) (b := xG) (by omega) (by omega)
          have bb3 : (xF : Int) * (xG : Int) ≤ 18446744056529682436 := by
            have h1 : xF ≤ 4294967294 := by omega
            have h2 : xG ≤ 4294967294 := by omega
            have h3 := Nat.mul_le_mul h1 h2
            have h4 : ((xF * xG : Nat) : Int) ≤ ((4294967294 * 4294967294 : Nat) : Int) := Int.ofNat_le.2 h3
            simpa using h4
          have hadd := addM_lt p cA (mulM p xF xG) hp0
          have s1 : (0 : Int) ≤ (i : Int) + k := by omega
          have s2 : (i : Int) + k < n := by omega
          have s3 : ((i : Int) + k).toNat = i + k := by omega
          have s4 : IntKind.i64.wrap ((i : Int) + k) = (i : Int) + k := IntWalk.i64_in _ (by omega)
          have m1 : IntKind.u64.wrap (cA : Int) = (cA : Int) := IntWalk.u64_in _ (by omega)
          have m2 : IntKind.u64.wrap ((xF : Int) * (xG : Int)) = (xF : Int) * (xG : Int) := IntWalk.u64_in _ (by omega)
          have m3 : IntKind.u64.wrap ((cA : Int) + (xF : Int) * (xG : Int)) = (cA : Int) + (xF : Int) * (xG : Int) := IntWalk.u64_in _ (by omega)
          have m4 : IntKind.u64.wrap (p : Int) = (p : Int) := IntWalk.u64_in _ (by omega)
          have m5 : ((cA : Int) + (xF : Int) * (xG : Int)).tmod (p : Int) = (addM p cA (mulM p xF xG) : Int) := by
            rw [Int.tmod_eq_emod_of_nonneg (by omega), addM_cast, mulM_cast, Int.add_emod_emod]
          have m6 : IntKind.u32.wrap (addM p cA (mulM p xF xG) : Int) = (addM p cA (mulM p xF xG) : Int) := IntWalk.u32_in _ (by omega)
          have m7 : ((p : Int) == 0) = false := by simp; omega
          have m8 : ¬ p = 0 := by omega
          have m9 : IntKind.u64.wrap (addM p cA (mulM p xF xG) : Int) = (addM p cA (mulM p xF xG) : Int) := IntWalk.u64_in _ (by omega)
          have K1 : Hid (∀ W, Boxes w W [#[.int .u32 (p : Int), .slice (some ⟨b, off, none⟩) fn fcap], #[.int .u32 q, .slice (some ⟨b', off', none⟩) gn gcap], #[.int .u32 0, .slice none 0 0]] → W.cell? ⟨w.heap.size + 1 + 1 + 1, i + k, none⟩ = some (.int .u32 (cA : Nat)) → (fun W => W.cell? ⟨w.heap.size, 0, none⟩ = some (.int .u32 (p : Int)) ∧ W.cell? ⟨w.heap.size, 1, none⟩ = some (.slice (some ⟨b, off, none⟩) fn fcap) ∧ W.cell? ⟨w.heap.size + 1, 0, none⟩ = some (.int .u32 q) ∧ W.cell? ⟨w.heap.size + 1, 1, none⟩ = some (.slice (some ⟨b', off', none⟩) gn gcap) ∧ W.cell? ⟨w.heap.size + 1 + 1 + 1, i + k, none⟩ = some (.int .u32 (cA : Nat))) W) :=
            fun W h h2 => ⟨h.cell' 0 0 _ _ rfl rfl, h.cell' 0 1 _ _ rfl rfl, h.cell' 1 0 _ _ rfl rfl, h.cell' 1 1 _ _ rfl rfl, h2⟩
          refine wp_region_noPanic ?_
          refine wp_region_held2 25 [(1, 0), (1, 1), (1, 2), (1, 3), (1, 4), (1, 5), (1, 6), (1, 7), (1, 8), (1, 9), (1, 10), (1, 11), (1, 12), (1, 14), (1, 15), (1, 19), (1, 20), (1, 21), (0, 13), (0, 16), (1, 17), (1, 18), (1, 22), (1, 23), (1, 24), (3, 25)] (fun W => W.cell? ⟨w.heap.size, 0, none⟩ = some (.int .u32 (p : Int)) ∧ W.cell? ⟨w.heap.size, 1, none⟩ = some (.slice (some ⟨b, off, none⟩) fn fcap) ∧ W.cell? ⟨w.heap.size + 1, 0, none⟩ = some (.int .u32 q) ∧ W.cell? ⟨w.heap.size + 1, 1, none⟩ = some (.slice (some ⟨b', off', none⟩) gn gcap) ∧ W.cell? ⟨w.heap.size + 1 + 1 + 1, i + k, none⟩ = some (.int .u32 (cA : Nat))) (fun _ => True) (by kernel_rfl) (by kernel_rfl) (fun _ _ _ _ _ h => h) (fun _ _ => trivial) (K1.out _ hbx.drew cA0) (fun _ => ?_)
          simp only [pick2, List.getElem?_cons_succ, List.getElem?_cons_zero]
          iterate 18
            (refine held2_early (v := ?_) (by rfl) ?_ ?_
             rotate_left
             · intro W hSw; (try dsimp only at hSw); go_simp; (try with_reducible rfl))
            try simp only [Act.put, List.setIfInBounds_toArray, List.set_cons_zero, List.set_cons_succ]
          refine held2_loud (fun K hK => ?_)
          go_simp
          refine (ref_at p (some ⟨b, off, none⟩) fn fcap fl i wr.drew ((hf.mono hbx.below).drew)).mono ?_
          rw [HXF.out]
          rintro e w2 ⟨rfl, hb2⟩
          have hx2 := hbx.drew.mono hb2
          have hA2 := HA.out.drew.mono hb2
          have cA2 := hA2.cell hik2
          rw [HCA.out] at cA2
          refine hK.out _ _ (K1.out _ hx2 cA2) (fun _ => ?_)
          clear hK K cA2
          try simp only [Act.put, List.setIfInBounds_toArray, List.set_cons_zero, List.set_cons_succ]
          refine held2_loud (fun K hK => ?_)
          go_simp
          refine (ref_at q (some ⟨b', off', none⟩) gn gcap gl k w2 (hg.mono hx2.below)).mono ?_
          rw [HXG.out]
          rintro e w3 ⟨rfl, hb3⟩
          have hx3 := hx2.mono hb3
          have hA3 := hA2.mono hb3
          have cA3 := hA3.cell hik2
          have fA3 := hA3.frozen (i + k)
          rw [HCA.out] at cA3
          refine hK.out _ _ (K1.out _ hx3 cA3) (fun _ => ?_)
          clear hK K
          try simp only [Act.put, List.setIfInBounds_toArray, List.set_cons_zero, List.set_cons_succ]
          iterate 5
            (refine held2_early (v := ?_) (by rfl) ?_ ?_
             rotate_left
             · intro W hSw; (try dsimp only at hSw); go_simp; (try with_reducible rfl))
            try simp only [Act.put, List.setIfInBounds_toArray, List.set_cons_zero, List.set_cons_succ]
          refine held2_store (fun K hK => ?_)
          go_simp
          refine hK.out _ _ trivial (fun _ => ?_)
          clear hK K
          try simp only [Act.put, List.setIfInBounds_toArray, List.set_cons_zero, List.set_cons_succ]
          refine held2_nil ?_
          refine NoPanic.normal ?_
          clear m1 m2 m3 m4 m5 m6 m7 m9 s1 s2 s3 s4 bb1 bb2 bb3
          go_wp2
          go_roundw
          case rel =>
            refine ⟨k + 1, by go_num, by omega, ?_, hx3.setCell (by simp) _⟩
            have h9 := hA3.set (i + k) (addM p cA (mulM p xF xG)) (Nat.lt_trans (addM_lt _ _ _ hp0) hp)
            show Arr _ _ _ _ _ _ ((innerM p (nth fl i) i gl (outerM p fl gl n i) k).set (i + k) (addM p (nth (innerM p (nth fl i) i gl (outerM p fl gl n i) k) (i + k)) (mulM p (nth fl i) (nth gl k))))
            rw [HCA.out, HXF.out, HXG.out]
            rw [HXF.out] at h9
            exact h9
          case measure => simp [intOf]; omega
        · go_wp2
          go_roundw
          case rel =>
            have e : k = gn := by omega
            have el := hg.len
            exact ⟨i + 1, by go_num, by omega, by show Arr _ _ _ _ _ _ (innerM p (nth fl i) i gl (outerM p fl gl n i) gl.length); rw [el, ← e]; exact hA, hbx⟩
          case measure => simp [intOf]; omega
    · have ei : i = fn := by omega
      have HS := Alg.hid (hA.sl (by omega))
      clear hA
      go_wp2_with fail
      refine (ref_cut p _ n n _ _ HS.out).mono ?_
      rintro e w' ⟨a', n', cap', rfl, hs', hb', hpv⟩
      have hbx' := hbx.mono hb'
      have e0 : w'.cell? ⟨w.heap.size + 1 + 1, 0, none⟩ = some (.int .u32 0) := hbx'.cell' 2 0 _ _ rfl rfl
      have e1 : w'.cell? ⟨w.heap.size + 1 + 1, 1, none⟩ = some (.slice none 0 0) := hbx'.cell' 2 1 _ _ rfl rfl
      have e2 : w'.frozen? ⟨w.heap.size + 1 + 1, 0, none⟩ = false := hbx'.frozen' 2 0 (by simp)
      have e3 : w'.frozen? ⟨w.heap.size + 1 + 1, 1, none⟩ = false := hbx'.frozen' 2 1 (by simp)
      have EI := Alg.hid ei
      clear ei
      go_wp2
      (try simp only [Exit.inBlock, Exit.then])
      refine bodyPost_ret (v := .agg #[.int .u32 (p : Int), .slice a' n' cap']) (by simp [results, Tryd.results47, go_sem, e0, e1]) rfl ?_
      have hof : Off a' n' (w.heap.size + 1 + 1) := hpv.offb (by have := hbx.size; simp at this; omega) (by omega)
      rw [← EI.out]
      exact ⟨_, _, _, rfl, (hs'.setCell hof _).setCell hof _, ((hbx'.below.setCell (p := ⟨w.heap.size + 1 + 1, 0, none⟩) (by simp; omega) _).setCell (p := ⟨w.heap.size + 1 + 1, 1, none⟩) (by simp; omega) _), hpv.new hB.size (by omega)⟩
theorem ref_Mul0 (p : Nat) (fa : Option Addr) (fn fcap : Nat) (ga : Option Addr) (gn gcap : Nat) (q : Int) (w : World) (h0 : fn = 0 ∨ gn = 0) (hfn : fn ≤ 1099511627776) (hgn : gn ≤ 1099511627776) :
    Calls Tryd.prog 47 #[.agg #[.int .u32 p, .slice fa fn fcap], .agg #[.int .u32 q, .slice ga gn gcap]] w (RetP p [] [] w) := by
  have hbx := boxes3 w #[.int .u32 (p : Int), .slice fa fn fcap] #[.int .u32 q, .slice ga gn gcap] #[.int .u32 0, .slice none 0 0] 25 25 25
  have hb := hbx.below
  by_cases hf0 : fn = 0
  · subst hf0
    go_enter Tryd.func47, Tryd.ntmps47
    go_wp2
    (try simp only [Exit.inBlock, Exit.then])
    refine bodyPost_ret (v := .agg #[.int .u32 (p : Int), .slice none 0 0]) (by simp [results, Tryd.results47, go_sem]) rfl ?_
    exact ⟨_, _, _, rfl, Sl.of_nil _ _ _ (by omega), by go_grown, Prov.empty⟩
  · have hg0 : gn = 0 := h0.resolve_left hf0
    subst hg0
    have hfb : ((fn : Int) == 0) = false := by simp; omega
    go_enter Tryd.func47, Tryd.ntmps47
    go_wp2
    (try simp only [Exit.inBlock, Exit.then])
    refine bodyPost_ret (v := .agg #[.int .u32 (p : Int), .slice none 0 0]) (by simp [results, Tryd.results47, go_sem]) rfl ?_
    exact ⟨_, _, _, rfl, Sl.of_nil _ _ _ (by omega), by go_grown, Prov.empty⟩
theorem ref_Mul (p : Nat) (fa : Option Addr) (fn fcap : Nat) (fl : List Nat) (ga : Option Addr) (gn gcap : Nat) (gl : List Nat) (q : Int) (w : World) (hf : Sl w fa fn fcap fl) (hg : Sl w ga gn gcap gl)
    (hp0 : 0 < p) (hp : p < 4294967296) (hfn : fn ≤ 1099511627776) (hgn : gn ≤ 1099511627776) (cf : ∀ i, nth fl i < p) (cg : ∀ i, nth gl i < p) :
    Calls Tryd.prog 47 #[.agg #[.int .u32 p, .slice fa fn fcap], .agg #[.int .u32 q, .slice ga gn gcap]] w (RetP p (mulL p fl gl) [] w) := by
  unfold mulL
  rw [hf.len, hg.len]
  by_cases h : fn = 0 ∨ gn = 0
  · rw [if_pos h]; exact ref_Mul0 p fa fn fcap ga gn gcap q w h hfn hgn
  · rw [if_neg h]; exact ref_Mul1 p fa fn fcap fl ga gn gcap gl q w hf hg (by omega) (by omega) hp0 hp hfn hgn cf cg
end Go.Proofs.YtcbhoedifgghhaaDoor
end
section
open Alg Go Go.RowKit
namespace Go.Proofs.YtcbhoedifgghhaaDoor
open Go.RowKit
set_option maxRecDepth 100000 in
set_option maxHeartbeats 600000 in
theorem ref_Value (p a : Nat) (fa : Option Addr) (fn fcap : Nat) (fl : List Nat) (w : World) (hf : Sl w fa fn fcap fl) (hp0 : 0 < p) (hp : p < 4294967296) (ha : a < 4294967296) (hfn : fn ≤ 1099511627776) :
    Calls Tryd.prog 38 #[.agg #[.int .u32 p, .slice fa fn fcap], .int .u32 a] w fun e w' => e = .returned (.int .u32 (valL p fl a : Nat)) ∧ Below w.heap.size w w' := by
  have hbx := boxes1 w #[.int .u32 (p : Int), .slice fa fn fcap] 25
  have K : Hid (∀ W, Boxes w W [#[.int .u32 (p : Int), .slice fa fn fcap]] → W.cell? ⟨w.heap.size, 0, none⟩ = some (.int .u32 (p : Int)) ∧ W.cell? ⟨w.heap.size, 1, none⟩ = some (.slice fa fn fcap) ∧ Boxes w W [#[.int .u32 (p : Int), .slice fa fn fcap]]) :=
    fun W h => ⟨h.cell' 0 0 _ _ rfl rfl, h.cell' 0 1 _ _ rfl rfl, h⟩
  have hl := hf.len
  go_enter Tryd.func38, Tryd.ntmps38
  go_wp2
  go_loopw [5, 6] (fun v i wr => ∃ k, k ≤ fn ∧ ((∃ m : Nat, i = .int .i64 m ∧ m + k + 1 = fn) ∨ (i = .int .i64 (-1) ∧ k = fn)) ∧ v = .int .u64 (valB p a (backL fl fn k) : Nat) ∧ Boxes w wr [#[.int .u32 (p : Int), .slice fa fn fcap]]) (fun _ i _ => (intOf i + 1).toNat)
  case atStart =>
    refine ⟨0, Nat.zero_le _, ?_, rfl, hbx⟩
    by_cases h : fn = 0
    · right; subst h; exact ⟨rfl, rfl⟩
    · left; exact ⟨fn - 1, by congr 1; omega, by omega⟩
  case round =>
    clear hbx
    obtain ⟨k, hk, hi, rfl, hB⟩ := hrel
    have d0 : wr.cell? ⟨w.heap.size, 0, none⟩ = some (.int .u32 (p : Int)) := hB.cell' 0 0 _ _ rfl rfl
    have hv := valB_lt p a (backL fl fn k) hp0
    rcases hi with ⟨m, rfl, hm⟩ | ⟨rfl, hke⟩
    · have hlt := hf.lt m
      have HE : Hid (valB p a (backL fl fn (k + 1)) = addM p (mulM p (valB p a (backL fl fn k)) a) (nth fl m)) := by
        show _ = _
        rw [backL_succ, valB_snoc, show fn - 1 - k = m by omega]
      generalize valB p a (backL fl fn k) = x at hv HE ⊢
      obtain ⟨b1, b2⟩ := cMul_le (a := x) (b := a) (by omega) (by omega)
      have hm0 : (0 : Int) ≤ (m : Int) := by omega
      obtain ⟨y, hy⟩ : ∃ y, nth fl m = y := ⟨_, rfl⟩
      rw [hy] at hlt HE
      have HY := Alg.hid hy
      clear hy
      have hz := addM_lt p (mulM p x a) y hp0
      have m1 : IntKind.u64.wrap (a : Int) = (a : Int) := IntWalk.u64_in _ (by omega)
      have m2 : IntKind.u64.wrap ((x : Int) * (a : Int)) = (x : Int) * (a : Int) := IntWalk.u64_in _ (by omega)
      have m3 : IntKind.u64.wrap ((x : Int) * (a : Int) + (y : Int)) = (x : Int) * (a : Int) + (y : Int) := IntWalk.u64_in _ (by omega)
      have m4 : IntKind.u64.wrap (p : Int) = (p : Int) := IntWalk.u64_in _ (by omega)
      have m5 : ((x : Int) * (a : Int) + (y : Int)).tmod (p : Int) = (addM p (mulM p x a) y : Int) := by
        rw [Int.tmod_eq_emod_of_nonneg (by omega), addM_cast, mulM_cast, Int.emod_add_emod]
      have m6 : IntKind.u64.wrap (addM p (mulM p x a) y : Int) = (addM p (mulM p x a) y : Int) := IntWalk.u64_in _ (by omega)
      have m7 : ((p : Int) == 0) = false := by simp; omega
      have m8 : ¬ p = 0 := by omega
      go_wp2
      go_region_held3 (fun W => W.cell? ⟨w.heap.size, 0, none⟩ = some (.int .u32 (p : Int)) ∧ W.cell? ⟨w.heap.size, 1, none⟩ = some (.slice fa fn fcap) ∧ Boxes w W [#[.int .u32 (p : Int), .slice fa fn fcap]])
        (first | (exact K.out _ (by assumption)) | (exact K.out _ hB.drew) | fail)
        (first
          | (go_at_call 78; refine (ref_at p fa fn fcap fl m _ ((hf.mono hB.below).drew)).mono ?_; rw [HY.out]; rintro e w1 ⟨rfl, hb1⟩; have hx1 := hB.drew.mono hb1)
          | fail)
      clear m1 m2 m3 m4 m5 m6
      go_wp2
      go_roundw
      case rel =>
        refine ⟨k + 1, by omega, ?_, by rw [HE.out], hx1⟩
        by_cases h : m = 0
        · right; subst h; exact ⟨rfl, by omega⟩
        · left; exact ⟨m - 1, by congr 1; omega, by omega⟩
      case measure => simp [intOf]
    · have HV : Hid (valL p fl a = valB p a (backL fl fn k)) := by show valB _ _ _ = _; rw [hl, hke]
      have m1 : IntKind.u32.wrap (valB p a (backL fl fn k) : Int) = (valB p a (backL fl fn k) : Int) := IntWalk.u32_in _ (by omega)
      clear hke
      go_wp2
      go_ret
      exact ⟨by rw [HV.out]; rfl, hB.below⟩
set_option maxRecDepth 100000 in
set_option maxHeartbeats 1000000 in
theorem ref_Diff (p : Nat) (fa : Option Addr) (fn fcap : Nat) (fl : List Nat) (w : World) (hf : Sl w fa fn fcap fl)
    (hp0 : 0 < p) (hp : p < 4294967296) (hfn : fn ≤ 2147483648) :
    Calls Tryd.prog 40 #[.agg #[.int .u32 p, .slice fa fn fcap]] w (RetP p (dfL p fl) [] w) := by
  obtain ⟨i0, hi, hz0, hz1, hz2⟩ := info_parts Tryd.infoU'
  have hbx := boxes2 w #[.int .u32 (p : Int), .slice fa fn fcap] #[.int .u32 0, .slice none 0 0] 25 25
  have K : Hid (∀ W, Boxes w W [#[.int .u32 (p : Int), .slice fa fn fcap], #[.int .u32 0, .slice none 0 0]] → W.cell? ⟨w.heap.size, 0, none⟩ = some (.int .u32 (p : Int)) ∧ W.cell? ⟨w.heap.size, 1, none⟩ = some (.slice fa fn fcap) ∧ Boxes w W [#[.int .u32 (p : Int), .slice fa fn fcap], #[.int .u32 0, .slice none 0 0]]) :=
    fun W h => ⟨h.cell' 0 0 _ _ rfl rfl, h.cell' 0 1 _ _ rfl rfl, h⟩
  have hl := hf.len
  go_enter Tryd.func40, Tryd.ntmps40
  go_wp2
  go_loopw [3, 4] (fun v i wr => ∃ k : Nat, i = .int .i64 k ∧ 1 ≤ k ∧ k ≤ fn + 1 ∧ (fn < k → k = 1 ∨ k = fn) ∧ Gr wr 22 (w.heap.size + 2) v (k - 1) ((List.range (k - 1)).map (dfC p fl)) ∧ Boxes w wr [#[.int .u32 (p : Int), .slice fa fn fcap], #[.int .u32 0, .slice none 0 0]]) (fun _ i _ => fn - (intOf i).toNat)
  case atStart => exact ⟨1, rfl, Nat.le_refl _, by omega, fun _ => Or.inl rfl, Gr.nil _ _ _, hbx⟩
  case round =>
    clear hbx
    obtain ⟨k, rfl, hk1, hk, hk2, hG, hbx⟩ := hrel
    have d0 : wr.cell? ⟨w.heap.size, 0, none⟩ = some (.int .u32 (p : Int)) := hbx.cell' 0 0 _ _ rfl rfl
    have d1 : wr.cell? ⟨w.heap.size, 1, none⟩ = some (.slice fa fn fcap) := hbx.cell' 0 1 _ _ rfl rfl
    by_cases hkn : k < fn
    · have hlt := hf.lt k
      obtain ⟨y, hy⟩ : ∃ y, nth fl k = y := ⟨_, rfl⟩
      rw [hy] at hlt
      obtain ⟨z, hzd⟩ : ∃ z, z = dfC p fl (k - 1) := ⟨_, rfl⟩
      have hzp : z < p := by rw [hzd]; exact mulM_lt _ _ _ hp0
      have hyk : (y : Int) * (k : Int) % (p : Int) = (z : Int) := by
        rw [hzd, dfC, show k - 1 + 1 = k by omega, hy, mulM]
        have h1 : y * (k % p) % p = y * k % p := Nat.mul_mod_mod _ _ _
        rw [h1]; simp
      have HY := Alg.hid hy
      have HZ := Alg.hid hzd
      clear hy hzd
      have bb : y * k ≤ 4294967295 * 2147483648 := Nat.mul_le_mul (by omega) (by omega)
      have bb2 : (y : Int) * (k : Int) ≤ 9223372034707292160 := by
        have h4 : ((y * k : Nat) : Int) ≤ ((4294967295 * 2147483648 : Nat) : Int) := Int.ofNat_le.2 bb
        simpa using h4
      have bb3 : 0 ≤ (y : Int) * (k : Int) := by
        have h4 : (0 : Int) ≤ ((y * k : Nat) : Int) := by omega
        simpa using h4
      have m1 : IntKind.u64.wrap (k : Int) = (k : Int) := IntWalk.u64_in _ (by omega)
      have m2 : IntKind.u64.wrap ((y : Int) * (k : Int)) = (y : Int) * (k : Int) := IntWalk.u64_in _ (by omega)
      have m3 : IntKind.u64.wrap (p : Int) = (p : Int) := IntWalk.u64_in _ (by omega)
      have m4 : ((y : Int) * (k : Int)).tmod (p : Int) = (z : Int) := by rw [Int.tmod_eq_emod_of_nonneg bb3, hyk]
      have m5 : IntKind.u64.wrap (z : Int) = (z : Int) := IntWalk.u64_in _ (by omega)
      have m6 : IntKind.u32.wrap (z : Int) = (z : Int) := IntWalk.u32_in _ (by omega)
      have m7 : ((p : Int) == 0) = false := by simp; omega
      have m8 : ¬ p = 0 := by omega
      clear hyk bb bb2 bb3
      have q1 : k - 1 + 1 ≤ maxLen := by unfold maxLen; omega
      have q2 : (k - 1 + 1) * 4 ≤ 140737488355328 := by omega
      have q3 : ∀ u ∈ [Value.int .u32 (z : Int)], u.oneCell' = true := by simp [Value.oneCell']
      have HG := Alg.hid hG
      have Q3 := Alg.hid q3
      clear hG q3
      go_wp2
      go_region_held3 (fun W => W.cell? ⟨w.heap.size, 0, none⟩ = some (.int .u32 (p : Int)) ∧ W.cell? ⟨w.heap.size, 1, none⟩ = some (.slice fa fn fcap) ∧ Boxes w W [#[.int .u32 (p : Int), .slice fa fn fcap], #[.int .u32 0, .slice none 0 0]])
        (first | (exact K.out _ (by assumption)) | (exact K.out _ hbx.drew) | (exact K.out _ (Boxes.alloc_any (by assumption) _)) | fail)
        (first
          | (go_at_call 78; refine (ref_at p fa fn fcap fl k _ ((hf.mono hbx.below).drew)).mono ?_; rw [HY.out]; rintro e w1 ⟨rfl, hb1⟩; have hx1 := hbx.drew.mono hb1; have hG1 := HG.out.drew.mono hb1)
          | (refine step_append_lies _ (by rfl) _ _ 23 (by rfl) (w.heap.size + 2) 22 i0 _ 1 4 Tryd.underlying23 hi hz0 hz1 hz2 rfl Nat.one_pos _ (k - 1) (vals ((List.range (k - 1)).map (dfC p fl))) (by rfl) (hG1.own.alloc _) ⟨w1.heap.size, 0, none⟩ 1 1 [.int .u32 (z : Int)] (by rfl) (by rfl) news_one Q3.out Nat.one_pos q1 q2 (Nat.le_trans hx1.size (size_le_alloc _ _)) (w1.heap.size + 1) (World.size_alloc _ _) ?_; intro gg cap w2 hown2 hgrow hat hlt2; have hx2 := (hx1.alloc_any (.cells #[.int .u32 (z : Int)] 22)).grown hgrow (fun q e => HG.out.row q e)) | fail)
      clear m1 m2 m3 m4 m5 m6
      have hG2 := Gr.snoc hown2 hG1.lt (by omega)
      rw [HZ.out] at hG2
      have HG2 := Alg.hid hG2
      clear hG2 hG1 hown2 hgrow
      go_wp2
      go_roundw
      case rel =>
        refine ⟨k + 1, by go_num, by omega, by omega, fun h => Or.inr (by omega), ?_, hx2⟩
        have h9 := HG2.out
        have e9 : (List.range (k + 1 - 1)).map (dfC p fl) = (List.range (k - 1)).map (dfC p fl) ++ [dfC p fl (k - 1)] := by
          rw [show k + 1 - 1 = k - 1 + 1 by omega, List.range_succ, List.map_append, List.map_cons, List.map_nil]
        rw [e9, show k + 1 - 1 = k by omega]
        rw [show k - 1 + 1 = k by omega] at h9
        exact h9
      case measure => simp [intOf]; omega
    · have ek : k - 1 = fn - 1 := by
        rcases Nat.lt_or_ge fn k with h | h
        · rcases hk2 h with h1 | h1 <;> omega
        · omega
      obtain ⟨a0, cap0, rfl, hs0, hg0⟩ := hG.sl
      have EK := Alg.hid ek
      clear ek hG hk2
      go_wp2_with fail
      refine (ref_cut p _ (k - 1) cap0 _ _ hs0).mono ?_
      rintro e w' ⟨a', n', cap', rfl, hs', hb', hpv⟩
      have hbx' := hbx.mono hb'
      have e0 : w'.cell? ⟨w.heap.size + 1, 0, none⟩ = some (.int .u32 0) := hbx'.cell' 1 0 _ _ rfl rfl
      have e1 : w'.cell? ⟨w.heap.size + 1, 1, none⟩ = some (.slice none 0 0) := hbx'.cell' 1 1 _ _ rfl rfl
      have e2 : w'.frozen? ⟨w.heap.size + 1, 0, none⟩ = false := hbx'.frozen' 1 0 (by simp)
      have e3 : w'.frozen? ⟨w.heap.size + 1, 1, none⟩ = false := hbx'.frozen' 1 1 (by simp)
      go_wp2
      (try simp only [Exit.inBlock, Exit.then])
      refine bodyPost_ret (v := .agg #[.int .u32 (p : Int), .slice a' n' cap']) (by simp [results, Tryd.results40, go_sem, e0, e1]) rfl ?_
      have hlen := hs0.len
      have hof : Off a' n' (w.heap.size + 1) := own_off hpv hg0 hs' (by have := hbx.size; simp at this; omega) (by omega)
      have eR : dfL p fl = trim ((List.range (k - 1)).map (dfC p fl)) := by unfold dfL; rw [hl, EK.out]
      rw [eR]
      exact ⟨_, _, _, rfl, (hs'.setCell hof _).setCell hof _, ((hbx'.below.setCell (p := ⟨w.heap.size + 1, 0, none⟩) (by simp) _).setCell (p := ⟨w.heap.size + 1, 1, none⟩) (by simp) _), own_prov hpv hg0 hs' hbx.below.size (by omega)⟩
end Go.Proofs.YtcbhoedifgghhaaDoor
end
section
open Alg Go Go.RowKit
namespace Alg
/-- leading coefficient, and the monic one -/
def mnU (l : List Nat) : Nat := nth l (l.length - 1)
def mnL (p : Nat) (l : List Nat) : List Nat := if l = [] then [] else scL p (powM p (mnU l) (p - 2)) l
/-- the call hands back a number and a polynomial -/
def RetM (p u : Nat) (l : List Nat) (w : World) (e : Ending) (w' : World) : Prop :=
  ∃ a n cap, e = .returned (.tuple #[.int .u32 (u : Nat), .agg #[.int .u32 (p : Nat), .slice a n cap]]) ∧ Sl w' a n cap l ∧ Below w.heap.size w w'
end Alg
namespace Go.Proofs.YtcbhoedifgghhaaDoor
open Go.RowKit
set_option maxRecDepth 100000 in
set_option maxHeartbeats 600000 in
theorem ppoly_Monic (p : Nat) (fa : Option Addr) (fn fcap : Nat) (fl : List Nat) (w : World) (hf : Sl w fa fn fcap fl) (cf : Canon p fl)
    (hp0 : 1 < p) (hp : p < 4294967296) (hfn : fn ≤ 1099511627776) :
    Calls Tryd.prog 34 #[.agg #[.int .u32 p, .slice fa fn fcap]] w (RetM p (mnU fl) (mnL p fl) w) := by
  have hbx := boxes2 w #[.int .u32 (p : Int), .slice fa fn fcap] #[.int .u32 0, .slice none 0 0] 25 25
  have hl := hf.len
  have hlt := hf.lt (fn - 1)
  have hU : mnU fl = nth fl (fn - 1) := by unfold mnU; rw [hl]
  go_enter Tryd.func34, Tryd.ntmps34
  go_wp2_with fail
  refine (ppoly_lead p fa fn fcap fl _ (hf.mono hbx.below)).mono ?_
  rintro e w1 ⟨rfl, hb1⟩
  have hx1 := hbx.mono hb1
  have d0 : w1.cell? ⟨w.heap.size, 0, none⟩ = some (.int .u32 (p : Int)) := hx1.cell' 0 0 _ _ rfl rfl
  have d1 : w1.cell? ⟨w.heap.size, 1, none⟩ = some (.slice fa fn fcap) := hx1.cell' 0 1 _ _ rfl rfl
  by_cases h0 : fl = []
  · have hz : nth fl (fn - 1) = 0 := by rw [h0]; exact nth_nil _
    have HR : Hid (mnL p fl = []) := by show _ = _; unfold mnL; rw [if_pos h0]
    have HU : Hid (mnU fl = 0) := hU.trans hz
    clear hU
    rw [hz]
    clear hz h0 hl
    go_wp2_with fail
    refine (ppoly_of p none 0 0 [] w1 (Sl.of_nil _ _ _ (by omega))).mono ?_
    rintro e w2 ⟨a2, n2, c2, rfl, hs2, hb2, hp2⟩
    have hx2 := hx1.mono hb2
    have e0 : w2.cell? ⟨w.heap.size + 1, 0, none⟩ = some (.int .u32 0) := hx2.cell' 1 0 _ _ rfl rfl
    have e1 : w2.cell? ⟨w.heap.size + 1, 1, none⟩ = some (.slice none 0 0) := hx2.cell' 1 1 _ _ rfl rfl
    have e2 : w2.frozen? ⟨w.heap.size + 1, 0, none⟩ = false := hx2.frozen' 1 0 (by simp)
    have e3 : w2.frozen? ⟨w.heap.size + 1, 1, none⟩ = false := hx2.frozen' 1 1 (by simp)
    have hn2 : n2 = 0 := by have := hs2.len; simpa [trim] using this.symm
    subst hn2
    go_wp2
    (try simp only [Exit.inBlock, Exit.then])
    refine bodyPost_ret (v := .tuple #[.int .u32 0, .agg #[.int .u32 (p : Int), .slice a2 0 c2]]) (by simp [results, Tryd.results34, go_sem, e0, e1]) rfl ?_
    rw [HR.out, HU.out]
    exact ⟨_, _, _, rfl, (hs2.setCell (Or.inl rfl) _).setCell (Or.inl rfl) _, ((hx2.below.setCell (p := ⟨w.heap.size + 1, 0, none⟩) (by simp) _).setCell (p := ⟨w.heap.size + 1, 1, none⟩) (by simp) _)⟩
  · have hlead : nth fl (fn - 1) ≠ 0 := by
      rcases cf.top with h | h
      · exact absurd h h0
      · rw [← hl]; exact h
    have HR : Hid (mnL p fl = trim ((List.range fn).map fun i => mulM p (nth fl i) (powM p (nth fl (fn - 1)) (p - 2)))) := by
      show _ = _
      unfold mnL scL
      rw [if_neg h0, hU, hl]
    have HU := Alg.hid hU
    clear hU h0 hl
    have hinv : powM p (nth fl (fn - 1)) (p - 2) < p := powM_lt _ _ _ (by omega)
    have hzb : ((nth fl (fn - 1) : Nat) : Int) ≠ 0 := by omega
    have hzb2 : (((nth fl (fn - 1) : Nat) : Int) == 0) = false := by simp; omega
    go_wp2_with fail
    refine (modp_Inv p (nth fl (fn - 1)) w1 hp0 hp hlt hlead).mono ?_
    rintro e w2 ⟨rfl, rfl⟩
    generalize powM p (nth fl (fn - 1)) (p - 2) = inv at hinv HR ⊢
    go_wp2_with fail
    refine (ppoly_Scale p inv fa fn fcap fl w2 (hf.mono hx1.below) (by omega) hp (by omega) hfn).mono ?_
    rintro e w3 ⟨a2, n2, c2, rfl, hs2, hb2, hp2⟩
    have hx2 := hx1.mono hb2
    have e0 : w3.cell? ⟨w.heap.size + 1, 0, none⟩ = some (.int .u32 0) := hx2.cell' 1 0 _ _ rfl rfl
    have e1 : w3.cell? ⟨w.heap.size + 1, 1, none⟩ = some (.slice none 0 0) := hx2.cell' 1 1 _ _ rfl rfl
    have e2 : w3.frozen? ⟨w.heap.size + 1, 0, none⟩ = false := hx2.frozen' 1 0 (by simp)
    have e3 : w3.frozen? ⟨w.heap.size + 1, 1, none⟩ = false := hx2.frozen' 1 1 (by simp)
    have hsz : w.heap.size + 2 ≤ w2.heap.size := hx1.size
    have hof : Off a2 n2 (w.heap.size + 1) := hp2.off0 (by omega)
    go_wp2
    (try simp only [Exit.inBlock, Exit.then])
    refine bodyPost_ret (v := .tuple #[.int .u32 (nth fl (fn - 1) : Nat), .agg #[.int .u32 (p : Int), .slice a2 n2 c2]]) (by simp [results, Tryd.results34, go_sem, e0, e1]) rfl ?_
    rw [HR.out, HU.out]
    exact ⟨_, _, _, rfl, (hs2.setCell hof _).setCell hof _, ((hx2.below.setCell (p := ⟨w.heap.size + 1, 0, none⟩) (by simp) _).setCell (p := ⟨w.heap.size + 1, 1, none⟩) (by simp) _)⟩
set_option maxRecDepth 100000 in
set_option maxHeartbeats 600000 in
theorem ref_Monic (p : Nat) (fa : Option Addr) (fn fcap : Nat) (fl : List Nat) (w : World) (hf : Sl w fa fn fcap fl)
    (hp0 : 1 < p) (hp : p < 4294967296) (hfn : fn ≤ 1099511627776) :
    Calls Tryd.prog 36 #[.agg #[.int .u32 p, .slice fa fn fcap]] w (RetM p (mnU fl) (mnL p fl) w) := by
  have hbx := boxes2 w #[.int .u32 (p : Int), .slice fa fn fcap] #[.int .u32 0, .slice none 0 0] 25 25
  have hl := hf.len
  have hlt := hf.lt (fn - 1)
  have hU : mnU fl = nth fl (fn - 1) := by unfold mnU; rw [hl]
  by_cases h0 : fn = 0
  · have hfl : fl = [] := List.length_eq_zero_iff.1 (by omega)
    have HR : Hid (mnL p fl = []) := by show _ = _; unfold mnL; rw [if_pos hfl]
    have HU : Hid (mnU fl = 0) := by show _ = _; rw [hfl]; rfl
    subst h0
    clear hU hl hfl
    go_enter Tryd.func36, Tryd.ntmps36
    go_wp2
    go_region
    all_goals
      go_wp2
      (try simp only [Exit.inBlock, Exit.then])
      refine bodyPost_ret (v := .tuple #[.int .u32 0, .agg #[.int .u32 (p : Int), .slice fa 0 fcap]]) (by simp [results, Tryd.results36, go_sem]) rfl ?_
      rw [HR.out, HU.out]
      exact ⟨_, _, _, rfl, Sl.of_nil _ _ _ hf.cap, by go_grown⟩
  · rcases hf.rd with h1 | ⟨b, off, rfl, hc⟩
    · exact absurd h1 h0
    have c1 := hc (fn - 1) (by omega)
    have hbl : b < w.heap.size := cell_lt c1
    clear hc
    have hne : fl ≠ [] := fun h => by rw [h] at hl; simp at hl; omega
    have HR : Hid (mnL p fl = trim ((List.range fn).map fun i => mulM p (nth fl i) (powM p (nth fl (fn - 1)) (p - 2)))) := by
      show _ = _
      unfold mnL scL
      rw [if_neg hne, hU, hl]
    have HU := Alg.hid hU
    have hfb : ((fn : Int) == 0) = false := by simp; omega
    have hf1 : (1 : Int) ≤ (fn : Int) := by omega
    have hinv : powM p (nth fl (fn - 1)) (p - 2) < p := powM_lt _ _ _ (by omega)
    clear hU hne hl
    go_enter Tryd.func36, Tryd.ntmps36
    go_wp2
    generalize hW0 : ((w.alloc (.cells #[.int .u32 (p : Int), .slice (some ⟨b, off, none⟩) fn fcap] 25)).alloc (.cells #[.int .u32 0, .slice none 0 0] 25)) = W0 at hbx ⊢
    clear hW0
    have K1 : Hid (∀ W, Boxes w W [#[.int .u32 (p : Int), .slice (some ⟨b, off, none⟩) fn fcap], #[.int .u32 0, .slice none 0 0]] → (fun W => W.cell? ⟨w.heap.size, 0, none⟩ = some (.int .u32 (p : Int)) ∧ W.cell? ⟨w.heap.size, 1, none⟩ = some (.slice (some ⟨b, off, none⟩) fn fcap)) W) := fun W h => ⟨h.cell' 0 0 _ _ rfl rfl, h.cell' 0 1 _ _ rfl rfl⟩
    have hsz : w.heap.size + 2 ≤ W0.heap.size := hbx.size
    refine wp_region_noPanic ?_
    refine wp_region_held2 8 [(1, 0), (1, 1), (1, 2), (1, 3), (1, 4), (0, 5), (0, 6), (2, 7), (3, 8)] (fun W => W.cell? ⟨w.heap.size, 0, none⟩ = some (.int .u32 (p : Int)) ∧ W.cell? ⟨w.heap.size, 1, none⟩ = some (.slice (some ⟨b, off, none⟩) fn fcap)) (fun _ => True) (by kernel_rfl) (by kernel_rfl) (fun _ _ _ _ _ h => h) (fun _ _ => trivial) (K1.out _ hbx.drew) (fun _ => ?_)
    simp only [pick2, List.getElem?_cons_succ, List.getElem?_cons_zero]
    iterate 5
      (refine held2_early (v := ?_) (by rfl) ?_ ?_
       rotate_left
       · intro W hSw; (try dsimp only at hSw); go_simp; (try with_reducible rfl))
      try simp only [Act.put, List.setIfInBounds_toArray, List.set_cons_zero, List.set_cons_succ]
    refine held2_loud (fun K hK => ?_)
    go_simp
    refine (ref_inverse p (nth fl (fn - 1)) W0.drew hp0 hp hlt).mono ?_
    rintro e w2 ⟨rfl, hw⟩
    have hx2 : Boxes w w2 [#[.int .u32 (p : Int), .slice (some ⟨b, off, none⟩) fn fcap], #[.int .u32 0, .slice none 0 0]] := by rw [hw]; exact hbx.drew
    have hs2 : w.heap.size + 2 ≤ w2.heap.size := hx2.size
    clear hw
    refine hK.out _ _ (K1.out _ hx2) (fun _ => ?_)
    clear hK K
    try simp only [Act.put, List.setIfInBounds_toArray, List.set_cons_zero, List.set_cons_succ]
    refine held2_loud (fun K hK => ?_)
    go_simp
    refine (ref_Scale p (powM p (nth fl (fn - 1)) (p - 2)) (some ⟨b, off, none⟩) fn fcap fl w2 (hf.mono hx2.below) (by omega) hp (by omega) hfn).mono ?_
    rintro e w3 ⟨a2, n2, c2, rfl, hs3, hb3, hp3⟩
    have hx3 := hx2.mono hb3
    refine hK.out _ _ (K1.out _ hx3) (fun _ => ?_)
    clear hK K
    try simp only [Act.put, List.setIfInBounds_toArray, List.set_cons_zero, List.set_cons_succ]
    refine held2_quiet (v := ?_) (by rfl) ?_ ?_
    rotate_left
    · intro W hSw; (try dsimp only at hSw); go_simp; (try with_reducible rfl)
    try simp only [Act.put, List.setIfInBounds_toArray, List.set_cons_zero, List.set_cons_succ]
    have e0 : w3.cell? ⟨w.heap.size + 1, 0, none⟩ = some (.int .u32 0) := hx3.cell' 1 0 _ _ rfl rfl
    have e1 : w3.cell? ⟨w.heap.size + 1, 1, none⟩ = some (.slice none 0 0) := hx3.cell' 1 1 _ _ rfl rfl
    have e2 : w3.frozen? ⟨w.heap.size + 1, 0, none⟩ = false := hx3.frozen' 1 0 (by simp)
    have e3 : w3.frozen? ⟨w.heap.size + 1, 1, none⟩ = false := hx3.frozen' 1 1 (by simp)
    have hof : Off a2 n2 (w.heap.size + 1) := hp3.off0 (by omega)
    refine held2_store (fun K hK => ?_)
    go_simp
    refine hK.out _ _ trivial (fun _ => ?_)
    clear hK K
    try simp only [Act.put, List.setIfInBounds_toArray, List.set_cons_zero, List.set_cons_succ]
    refine held2_nil ?_
    refine NoPanic.normal ?_
    go_wp2
    (try simp only [Exit.inBlock, Exit.then])
    refine bodyPost_ret (v := .tuple #[.int .u32 (nth fl (fn - 1) : Nat), .agg #[.int .u32 (p : Int), .slice a2 n2 c2]]) (by simp [results, Tryd.results36, go_sem, e0, e1]) rfl ?_
    rw [HR.out, HU.out]
    exact ⟨_, _, _, rfl, (hs3.setCell hof _).setCell hof _, ((hx3.below.setCell (p := ⟨w.heap.size + 1, 0, none⟩) (by simp) _).setCell (p := ⟨w.heap.size + 1, 1, none⟩) (by simp) _)⟩
end Go.Proofs.YtcbhoedifgghhaaDoor
end
section
open Alg Go Go.RowKit
namespace Alg
open Poly
theorem scL_m1 {p : Nat} [NeZero p] (hp : 1 < p) (g : List Nat) : pol p (scL p (p - 1) g) = -pol p g := by
  rw [(scL_ok _ _).1]
  have e : (Fp.of (p - 1) : Fp p) = -1 := by rw [Fp.of_neg (by omega), Fp.of_one]
  rw [e, C_neg, C_one, CR.neg_mul, CR.one_mul]
end Alg
namespace Go.Proofs.YtcbhoedifgghhaaDoor
open Go.RowKit
theorem subL_eq {p : Nat} [NeZero p] (hp : 1 < p) {f g : List Nat} (cg : Canon p g) : sbL p f g = subL p f g := by
  have e : subL p f g = addL p f (scL p (p - 1) g) := rfl
  rw [e]
  refine canon_ext (sbL_ok f g (canon_le cg)).2 (addL_ok' (p := p) _ _).2 ?_
  rw [(sbL_ok f g (canon_le cg)).1, (addL_ok' _ _).1, scL_m1 hp]
theorem subL_len (p : Nat) (f g : List Nat) : (subL p f g).length ≤ max f.length g.length := by
  have e : subL p f g = addL p f (scL p (p - 1) g) := rfl
  have h1 := addL_len p f (scL p (p - 1) g)
  have h2 := scL_len p (p - 1) g
  rw [e]
  omega
theorem ref_AddL (p : Nat) (fa : Option Addr) (fn fcap : Nat) (fl : List Nat) (ga : Option Addr) (gn gcap : Nat) (gl : List Nat) (q : Int) (w : World) (hf : Sl w fa fn fcap fl) (hg : Sl w ga gn gcap gl)
    (hp0 : 0 < p) (hp : p < 4294967296) (hfn : fn ≤ 1099511627776) (hgn : gn ≤ 1099511627776) :
    Calls Tryd.prog 44 #[.agg #[.int .u32 p, .slice fa fn fcap], .agg #[.int .u32 q, .slice ga gn gcap]] w (RetP p (addL p fl gl) [] w) := by
  unfold addL
  rw [hf.len, hg.len]
  exact ref_Add p fa fn fcap fl ga gn gcap gl q w hf hg hp0 hp hfn hgn
theorem ppoly_SubL (p : Nat) (fa : Option Addr) (fn fcap : Nat) (fl : List Nat) (ga : Option Addr) (gn gcap : Nat) (gl : List Nat) (q : Int) (w : World) (hf : Sl w fa fn fcap fl) (hg : Sl w ga gn gcap gl)
    (hp0 : 0 < p) (hp : p < 4294967296) (hfn : fn ≤ 1099511627776) (hgn : gn ≤ 1099511627776) (hgb : ∀ i, nth gl i ≤ p) :
    Calls Tryd.prog 45 #[.agg #[.int .u32 p, .slice fa fn fcap], .agg #[.int .u32 q, .slice ga gn gcap]] w (RetP p (sbL p fl gl) [] w) := by
  unfold sbL
  rw [hf.len, hg.len]
  exact ppoly_Sub p fa fn fcap fl ga gn gcap gl q w hf hg hp0 hp hgb hfn hgn
theorem ppoly_ScaleL (p c : Nat) (fa : Option Addr) (fn fcap : Nat) (fl : List Nat) (w : World) (hf : Sl w fa fn fcap fl)
    (hp0 : 0 < p) (hp : p < 4294967296) (hcc : c < 4294967296) (hfn : fn ≤ 1099511627776) :
    Calls Tryd.prog 41 #[.agg #[.int .u32 p, .slice fa fn fcap], .int .u32 c] w (RetP p (scL p c fl) [] w) := by
  unfold scL
  rw [hf.len]
  exact ppoly_Scale p c fa fn fcap fl w hf hp0 hp hcc hfn
theorem ref_ScaleL (p c : Nat) (fa : Option Addr) (fn fcap : Nat) (fl : List Nat) (w : World) (hf : Sl w fa fn fcap fl)
    (hp0 : 0 < p) (hp : p < 4294967296) (hcc : c < 4294967296) (hfn : fn ≤ 1099511627776) :
    Calls Tryd.prog 42 #[.agg #[.int .u32 p, .slice fa fn fcap], .int .u32 c] w (RetP p (scL p c fl) [] w) := by
  unfold scL
  rw [hf.len]
  exact ref_Scale p c fa fn fcap fl w hf hp0 hp hcc hfn
end Go.Proofs.YtcbhoedifgghhaaDoor
end
end
