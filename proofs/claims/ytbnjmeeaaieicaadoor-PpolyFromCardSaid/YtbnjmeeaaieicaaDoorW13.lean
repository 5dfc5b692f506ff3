/- Contract of ppoly.DivMod. Contract of ppoly.DivMod, the other case. -/
import Derived.Test.YtbnjmeeaaieicaaDoorE4
import Derived.Test.YtbnjmeeaaieicaaDoorE2
section
open Alg Go Go.RowKit
namespace Alg
theorem Arr.other {w : World} {e : TypeId} {B g n cap : Nat} {l : List Nat} (h : Arr w e B g n cap l) {g' : Nat} (i : Nat) (hne : g ≠ g') (u : Value) : Arr (w.setCell ⟨g', i, none⟩ u) e B g n cap l :=
  ⟨h.own.kept (row := some g') ⟨rfl, rfl, rfl, by simp [World.setCell], fun k _ hk => Below.heap_setCell w ⟨g', i, none⟩ u k (fun e => hk (by rw [e]))⟩ (Or.inr (by simp [Value.ownBlock]; omega)), h.lt⟩
theorem Arr.weak {w : World} {e : TypeId} {B B' g n cap : Nat} {l : List Nat} (h : Arr w e B g n cap l) (hB : B' ≤ B) : Arr w e B' g n cap l := by
  refine ⟨?_, h.lt⟩
  obtain ⟨h1, h2⟩ := h.own
  refine ⟨h1, ?_⟩
  rcases h2 with h2 | ⟨g', cap', cur, h3, h4, h5⟩
  · exact Or.inl h2
  · exact Or.inr ⟨g', cap', cur, h3, Nat.le_trans hB h4, h5⟩
/-- how many steps a division has -/
def divN (f g : List Nat) : Nat := f.length + 1 - g.length
/-- quotient and rest -/
def divL (p : Nat) (f g : List Nat) : List Nat × List Nat := stepsD p (powM p (nth g (g.length - 1)) (p - 2)) g (divN f g) f (divN f g)
/-- the call hands back quotient and remainder -/
def RetD (p : Nat) (L : List Nat × List Nat) (w : World) (e : Ending) (w' : World) : Prop :=
  ∃ a n cap b m cap', e = .returned (.tuple #[.agg #[.int .u32 (p : Nat), .slice a n cap], .agg #[.int .u32 (p : Nat), .slice b m cap'], .int .i64 0]) ∧ Sl w' a n cap (trim L.1) ∧ Sl w' b m cap' (trim L.2) ∧ Below w.heap.size w w' ∧ Prov w [] a n ∧ Prov w [] b m
end Alg
namespace Go.Proofs.YtbnjmeeaaieicaaDoor
open Go.RowKit
theorem ppoly_Div0 (p : Nat) (fa : Option Addr) (fn fcap : Nat) (ga : Option Addr) (gcap : Nat) (q : Int) (w : World) :
    Calls Tryd.prog 81 #[.agg #[.int .u32 p, .slice fa fn fcap], .agg #[.int .u32 q, .slice ga 0 gcap]] w fun e w' => e = .returned (.tuple #[.agg #[.int .u32 0, .slice none 0 0], .agg #[.int .u32 0, .slice none 0 0], .int .i64 3]) ∧ Below w.heap.size w w' := by
  have hbx := boxes4 w #[.int .u32 (p : Int), .slice fa fn fcap] #[.int .u32 q, .slice ga 0 gcap] #[.int .u32 0, .slice none 0 0] #[.int .u32 0, .slice none 0 0] 47 47 47 47
  have hbw := hbx.below
  go_enter Tryd.func81, Tryd.ntmps81
  go_wp2
  (try simp only [Exit.inBlock, Exit.then])
  refine bodyPost_ret (v := .tuple #[.agg #[.int .u32 0, .slice none 0 0], .agg #[.int .u32 0, .slice none 0 0], .int .i64 3]) (by simp [results, Tryd.results81, go_sem]) rfl ?_
  exact ⟨rfl, by go_grown⟩
set_option maxRecDepth 100000 in
set_option maxHeartbeats 2000000 in
theorem ppoly_DivLess (p : Nat) (fa : Option Addr) (fn fcap : Nat) (fl : List Nat) (ga : Option Addr) (gn gcap : Nat) (gl : List Nat) (q : Int) (w : World) (hf : Sl w fa fn fcap fl) (hg : Sl w ga gn gcap gl)
    (hg0 : 0 < gn) (hlt : fn < gn) (hlead : nth gl (gn - 1) ≠ 0) (hp0 : 1 < p) (hp : p < 4294967296) (hfn : fn ≤ 1099511627776) (hgn : gn ≤ 1099511627776) :
    Calls Tryd.prog 81 #[.agg #[.int .u32 p, .slice fa fn fcap], .agg #[.int .u32 q, .slice ga gn gcap]] w (RetD p ([], fl) w) := by
  rcases hg.rd with h0 | ⟨b', off', rfl, hcg⟩
  · omega
  clear hcg
  have hbx := boxes4 w #[.int .u32 (p : Int), .slice fa fn fcap] #[.int .u32 q, .slice (some ⟨b', off', none⟩) gn gcap] #[.int .u32 0, .slice none 0 0] #[.int .u32 0, .slice none 0 0] 47 47 47 47
  have hbxl := hbx.less 2
  have hgb : ((gn : Int) == 0) = false := by simp; omega
  have hgm := hg.lt (gn - 1)
  have K : Hid (∀ W, Boxes w W [#[.int .u32 (p : Int), .slice fa fn fcap], #[.int .u32 q, .slice (some ⟨b', off', none⟩) gn gcap]] → W.cell? ⟨w.heap.size, 0, none⟩ = some (.int .u32 (p : Int)) ∧ W.cell? ⟨w.heap.size, 1, none⟩ = some (.slice fa fn fcap) ∧ W.cell? ⟨w.heap.size + 1, 0, none⟩ = some (.int .u32 q) ∧ W.cell? ⟨w.heap.size + 1, 1, none⟩ = some (.slice (some ⟨b', off', none⟩) gn gcap) ∧ Boxes w W [#[.int .u32 (p : Int), .slice fa fn fcap], #[.int .u32 q, .slice (some ⟨b', off', none⟩) gn gcap]]) :=
    fun W h => ⟨h.cell' 0 0 _ _ rfl rfl, h.cell' 0 1 _ _ rfl rfl, h.cell' 1 0 _ _ rfl rfl, h.cell' 1 1 _ _ rfl rfl, h⟩
  go_enter Tryd.func81, Tryd.ntmps81
  go_wp2
  go_region_held3 (fun W => W.cell? ⟨w.heap.size, 0, none⟩ = some (.int .u32 (p : Int)) ∧ W.cell? ⟨w.heap.size, 1, none⟩ = some (.slice fa fn fcap) ∧ W.cell? ⟨w.heap.size + 1, 0, none⟩ = some (.int .u32 q) ∧ W.cell? ⟨w.heap.size + 1, 1, none⟩ = some (.slice (some ⟨b', off', none⟩) gn gcap) ∧ Boxes w W [#[.int .u32 (p : Int), .slice fa fn fcap], #[.int .u32 q, .slice (some ⟨b', off', none⟩) gn gcap]])
    (first | (exact K.out _ (by assumption)) | (exact K.out _ hbxl.drew) | fail)
    (first
      | (go_at_call 84; refine (ppoly_lead q (some ⟨b', off', none⟩) gn gcap gl _ ((hg.mono hbx.below).drew)).mono ?_; rintro e w1 ⟨rfl, hb1⟩; have hx1 := hbx.drew.mono hb1; have hx1' := hx1.less 2)
      | (go_at_call 32; refine (modp_Inv p (nth gl (gn - 1)) _ hp0 hp hgm hlead).mono ?_; rintro e w2 ⟨rfl, rfl⟩) | fail)
  have hf1 := hf.mono hx1.below
  have d1 : w2.cell? ⟨w.heap.size, 1, none⟩ = some (.slice fa fn fcap) := hx1.cell' 0 1 _ _ rfl rfl
  go_wp2_with fail
  refine (clone_any fa fn fcap fl _ hf1 hfn).mono ?_
  rintro e w3 ⟨v, rfl, hgr, hb3⟩
  have hx3 := hx1.mono hb3
  have hx3' := hx3.less 2
  obtain ⟨ra, rcap, rfl, hr, hrown⟩ := hgr.sl
  rw [hf.len] at hr hrown ⊢
  go_wp2
  go_loopw [12] (fun v wr => v = .int .i64 (-1) ∧ wr = w3) (fun _ _ => 0)
  case atStart => exact ⟨rfl, rfl⟩
  case round =>
    obtain ⟨rfl, rfl⟩ := hrel
    have d0 : wr.cell? ⟨w.heap.size, 0, none⟩ = some (.int .u32 (p : Int)) := hx3.cell' 0 0 _ _ rfl rfl
    have HR := Alg.hid hrown
    have hz := hx1.size
    have hnil : Sl wr.drew none 0 0 [] := Sl.of_nil _ _ _ (by omega)
    clear hgr hrown
    go_wp2
    go_region_held3 (fun W => W.cell? ⟨w.heap.size, 0, none⟩ = some (.int .u32 (p : Int)) ∧ W.cell? ⟨w.heap.size, 1, none⟩ = some (.slice fa fn fcap) ∧ W.cell? ⟨w.heap.size + 1, 0, none⟩ = some (.int .u32 q) ∧ W.cell? ⟨w.heap.size + 1, 1, none⟩ = some (.slice (some ⟨b', off', none⟩) gn gcap) ∧ Boxes w W [#[.int .u32 (p : Int), .slice fa fn fcap], #[.int .u32 q, .slice (some ⟨b', off', none⟩) gn gcap]])
      (first | (exact K.out _ (by assumption)) | (exact K.out _ hx3'.drew) | (exact K.out _ (Boxes.setCell (Boxes.setCell hx5' (by simp; try omega) _) (by simp; try omega) _)) | (exact K.out _ (Boxes.setCell (Boxes.setCell (Boxes.setCell (Boxes.setCell hx5' (by simp; try omega) _) (by simp; try omega) _) (by simp; try omega) _) (by simp; try omega) _)) | fail)
      (first
        | (go_at_call 85; (with_reducible refine (ppoly_of p none 0 0 [] wr.drew hnil).mono ?_); rintro e w4 ⟨a1, n1, cap1, rfl, hs4, hb4, hpv4⟩; have hx4 := hx3.drew.mono hb4; have hx4' := hx4.less 2; have hr4 := hr.drew.mono hb4)
        | (go_at_call 85; (with_reducible refine (ppoly_of p ra fn rcap fl w4 hr4).mono ?_); rintro e w5 ⟨a2, n2, cap2, rfl, hs5, hb5, hpv5⟩; have hx5 := hx4.mono hb5; have hx5' := hx5.less 2; have hq5 := hs4.mono hb5; have e0 : w5.cell? ⟨w.heap.size + 1 + 1, 0, none⟩ = some (.int .u32 0) := hx5.cell' 2 0 _ _ rfl rfl; have e1 : w5.cell? ⟨w.heap.size + 1 + 1, 1, none⟩ = some (.slice none 0 0) := hx5.cell' 2 1 _ _ rfl rfl; have e2 : w5.cell? ⟨w.heap.size + 1 + 1 + 1, 0, none⟩ = some (.int .u32 0) := hx5.cell' 3 0 _ _ rfl rfl; have e3 : w5.cell? ⟨w.heap.size + 1 + 1 + 1, 1, none⟩ = some (.slice none 0 0) := hx5.cell' 3 1 _ _ rfl rfl; have f0 : w5.frozen? ⟨w.heap.size + 1 + 1, 0, none⟩ = false := hx5.frozen' 2 0 (by simp); have f1 : w5.frozen? ⟨w.heap.size + 1 + 1, 1, none⟩ = false := hx5.frozen' 2 1 (by simp); have f2 : w5.frozen? ⟨w.heap.size + 1 + 1 + 1, 0, none⟩ = false := hx5.frozen' 3 0 (by simp); have f3 : w5.frozen? ⟨w.heap.size + 1 + 1 + 1, 1, none⟩ = false := hx5.frozen' 3 1 (by simp)) | fail)
    all_goals
      go_wp2
      (try simp only [Exit.inBlock, Exit.then])
      refine bodyPost_ret (v := .tuple #[.agg #[.int .u32 (p : Int), .slice a1 n1 cap1], .agg #[.int .u32 (p : Int), .slice a2 n2 cap2], .int .i64 0]) (by simp [results, Tryd.results81, go_sem, e0, e1, e2, e3]) rfl ?_
      have hn1 : n1 = 0 := by have := hq5.len; simpa [trim] using this.symm
      subst hn1
      have hfl := hf.len
      have hz4 := hx4.size
      simp at hz hz4
      have hof : Off a2 n2 (w.heap.size + 1 + 1) := own_off hpv5 HR.out hs5 (by omega) (by omega) hfl
      have hof' : Off a2 n2 (w.heap.size + 1 + 1 + 1) := own_off hpv5 HR.out hs5 (by omega) (by omega) hfl
      have hbz : Below w.heap.size w w5 := hx5.below
      refine ⟨_, _, _, _, _, _, rfl, (((hq5.setCell (Or.inl rfl) _).setCell (Or.inl rfl) _).setCell (Or.inl rfl) _).setCell (Or.inl rfl) _, ?_, ?_, Prov.empty, own_prov hpv5 HR.out hs5 (by omega) (by omega) hfl⟩
      · first
          | exact (((hs5.setCell hof _).setCell hof _).setCell hof' _).setCell hof' _
          | exact (((hs5.setCell hof' _).setCell hof' _).setCell hof _).setCell hof _
      · exact (((hbz.setCell (by simp; try omega) _).setCell (by simp; try omega) _).setCell (by simp; try omega) _).setCell (by simp; try omega) _
end Go.Proofs.YtbnjmeeaaieicaaDoor
end
section
open Alg Go Go.RowKit
namespace Alg
theorem stepsD_step (p inv : Nat) (g : List Nat) (m : Nat) (f : List Nat) (j k n : Nat) (Q R : List Nat) (hS : stepsD p inv g m f j = (Q, R)) (hk : k + 1 + j = m) (hn : g.length = n) :
    stepsD p inv g m f (j + 1) = (Q.set k (mulM p (nth R (k + n - 1)) inv), innerD p (mulM p (nth R (k + n - 1)) inv) k g R n) := by
  have e : m - (j + 1) = k := by omega
  show ((stepsD p inv g m f j).1.set (m - (j + 1)) (mulM p (nth (stepsD p inv g m f j).2 (m - (j + 1) + g.length - 1)) inv), innerD p (mulM p (nth (stepsD p inv g m f j).2 (m - (j + 1) + g.length - 1)) inv) (m - (j + 1)) g (stepsD p inv g m f j).2 g.length) = _
  rw [e, hS, hn]
end Alg
namespace Go.Proofs.YtbnjmeeaaieicaaDoor
open Go.RowKit
theorem Tryd.infoU14 : (Tryd.prog.info? 22).map (fun i => (i.zero, i.size, i.bytes)) = some (some (.int .u32 0), 1, 4) := by kernel_rfl
set_option maxRecDepth 100000 in
set_option maxHeartbeats 2000000 in
theorem ppoly_DivMore (p : Nat) (fa : Option Addr) (fn fcap : Nat) (fl : List Nat) (ga : Option Addr) (gn gcap : Nat) (gl : List Nat) (q : Int) (w : World) (hf : Sl w fa fn fcap fl) (hg : Sl w ga gn gcap gl)
    (hg0 : 0 < gn) (m : Nat) (hm : m + gn = fn + 1) (hm0 : 0 < m) (hlead : nth gl (gn - 1) ≠ 0) (hp0 : 1 < p) (hp : p < 4294967296) (hfn : fn ≤ 1099511627776) (hgn : gn ≤ 1099511627776) :
    Calls Tryd.prog 81 #[.agg #[.int .u32 p, .slice fa fn fcap], .agg #[.int .u32 q, .slice ga gn gcap]] w (RetD p (stepsD p (powM p (nth gl (gn - 1)) (p - 2)) gl m fl m) w) := by
  obtain ⟨i0, hi, hz0, hz1, hz2⟩ := info_parts Tryd.infoU14
  rcases hg.rd with h0 | ⟨b', off', rfl, hcg⟩
  · omega
  have HG := Alg.hid hcg
  clear hcg
  have hbx := boxes4 w #[.int .u32 (p : Int), .slice fa fn fcap] #[.int .u32 q, .slice (some ⟨b', off', none⟩) gn gcap] #[.int .u32 0, .slice none 0 0] #[.int .u32 0, .slice none 0 0] 47 47 47 47
  have hbxl := hbx.less 2
  have hgb : ((gn : Int) == 0) = false := by simp; omega
  have hgm := hg.lt (gn - 1)
  have K : Hid (∀ W, Boxes w W [#[.int .u32 (p : Int), .slice fa fn fcap], #[.int .u32 q, .slice (some ⟨b', off', none⟩) gn gcap]] → W.cell? ⟨w.heap.size, 0, none⟩ = some (.int .u32 (p : Int)) ∧ W.cell? ⟨w.heap.size, 1, none⟩ = some (.slice fa fn fcap) ∧ W.cell? ⟨w.heap.size + 1, 0, none⟩ = some (.int .u32 q) ∧ W.cell? ⟨w.heap.size + 1, 1, none⟩ = some (.slice (some ⟨b', off', none⟩) gn gcap) ∧ Boxes w W [#[.int .u32 (p : Int), .slice fa fn fcap], #[.int .u32 q, .slice (some ⟨b', off', none⟩) gn gcap]]) :=
    fun W h => ⟨h.cell' 0 0 _ _ rfl rfl, h.cell' 0 1 _ _ rfl rfl, h.cell' 1 0 _ _ rfl rfl, h.cell' 1 1 _ _ rfl rfl, h⟩
  have hL : (fn : Int) - (gn : Int) + 1 = (m : Int) := by omega
  have HL := Alg.hid hL
  clear hL
  go_enter Tryd.func81, Tryd.ntmps81
  go_wp2
  go_region_held3 (fun W => W.cell? ⟨w.heap.size, 0, none⟩ = some (.int .u32 (p : Int)) ∧ W.cell? ⟨w.heap.size, 1, none⟩ = some (.slice fa fn fcap) ∧ W.cell? ⟨w.heap.size + 1, 0, none⟩ = some (.int .u32 q) ∧ W.cell? ⟨w.heap.size + 1, 1, none⟩ = some (.slice (some ⟨b', off', none⟩) gn gcap) ∧ Boxes w W [#[.int .u32 (p : Int), .slice fa fn fcap], #[.int .u32 q, .slice (some ⟨b', off', none⟩) gn gcap]])
    (first | (exact K.out _ (by assumption)) | (exact K.out _ hbxl.drew) | fail)
    (first
      | (go_at_call 84; refine (ppoly_lead q (some ⟨b', off', none⟩) gn gcap gl _ ((hg.mono hbx.below).drew)).mono ?_; rintro e w1 ⟨rfl, hb1⟩; have hx1 := hbx.drew.mono hb1; have hx1' := hx1.less 2)
      | (go_at_call 32; refine (modp_Inv p (nth gl (gn - 1)) _ hp0 hp hgm hlead).mono ?_; rintro e w2 ⟨rfl, rfl⟩) | fail)
  have hinv : powM p (nth gl (gn - 1)) (p - 2) < p := powM_lt _ _ _ (by omega)
  generalize powM p (nth gl (gn - 1)) (p - 2) = inv at *
  have hf1 := hf.mono hx1.below
  have d1 : w2.cell? ⟨w.heap.size, 1, none⟩ = some (.slice fa fn fcap) := hx1.cell' 0 1 _ _ rfl rfl
  go_wp2_with fail
  refine (clone_any fa fn fcap fl _ hf1 hfn).mono ?_
  rintro e w3 ⟨v, rfl, hgr, hb3⟩
  have hx3 := hx1.mono hb3
  rw [hf.len] at hgr
  try rw [hf.len]
  rcases hgr.shape with ⟨_, h0⟩ | ⟨rg, rcap, rfl, hrg, hrg2, _, hrc⟩
  · omega
  have hR0 := hgr.arr
  have hrg4 : w.heap.size + 4 ≤ rg := by have := hx1.size; simp at this; omega
  have hrne : rg ≠ w3.heap.size := by omega
  have hqg4 : w.heap.size + 4 ≤ w3.heap.size := by omega
  clear hgr
  have HR0 := Alg.hid hR0
  clear hR0
  go_wp2_with (at_make; refine wpList_make_full _ rfl _ _ 23 rfl w.heap.size 22 i0 (.int .u32 0) 1 Tryd.underlying23 hi hz0 hz1 .i64 .i64 _ _ m rfl rfl HL.out HL.out (by rw [hz2]; omega) (by unfold maxLen; omega) (by omega) ?_; rw [madeCells_u32]; intro w4 hown hgr; have hx4 := hx3.mono (below_grown hgr); have hR := HR0.out.mono (below_grown hgr); clear hgr; have hA : Arr w4 22 w.heap.size w3.heap.size m m (List.replicate m 0) := ⟨hown, fun i => by rw [← upto_zero (fun _ => 0) m, nth_upto]; split <;> decide⟩; clear hown)
  go_loopw [12] (fun v wr => ∃ j, j ≤ m ∧ ((∃ k : Nat, v = .int .i64 k ∧ k + 1 + j = m) ∨ (v = .int .i64 (-1) ∧ j = m)) ∧ Arr wr 22 w2.heap.size rg fn rcap (stepsD p inv gl m fl j).2 ∧ Arr wr 22 w.heap.size w3.heap.size m m (stepsD p inv gl m fl j).1 ∧ Boxes w wr [#[.int .u32 (p : Int), .slice fa fn fcap], #[.int .u32 q, .slice (some ⟨b', off', none⟩) gn gcap], #[.int .u32 0, .slice none 0 0], #[.int .u32 0, .slice none 0 0]]) (fun v _ => (intOf v + 1).toNat)
  case atStart => exact ⟨0, Nat.zero_le _, Or.inl ⟨m - 1, by congr 1; omega, by omega⟩, hR, hA, hx4⟩
  case round =>
    clear hA hR hx4
    obtain ⟨j, hj, hv, hR, hQ, hx⟩ := hrel
    obtain ⟨Q, R, hS⟩ : ∃ Q R, stepsD p inv gl m fl j = (Q, R) := ⟨_, _, rfl⟩
    rw [hS] at hR hQ
    simp only at hR hQ
    obtain ⟨wo, rfl⟩ : ∃ wo : World, wo = wr := ⟨_, rfl⟩
    have d0 : wo.cell? ⟨w.heap.size, 0, none⟩ = some (.int .u32 (p : Int)) := hx.cell' 0 0 _ _ rfl rfl
    rcases hv with ⟨k, rfl, hkj⟩ | ⟨rfl, rfl⟩
    · have hkf : k + gn - 1 < fn := by omega
      have cR := hR.cell hkf
      have lR := hR.lt (k + gn - 1)
      have hkm : k < m := by omega
      have cQ := hQ.cell hkm
      have fQ := hQ.frozen k
      have s1 : (0 : Int) ≤ (k : Int) + gn - 1 := by omega
      have s2 : (k : Int) + gn - 1 < fn := by omega
      have s3 : ((k : Int) + gn - 1).toNat = k + gn - 1 := by omega
      have s4 : IntKind.i64.wrap ((k : Int) + gn) = (k : Int) + gn := IntWalk.i64_in _ (by omega)
      have s5 : IntKind.i64.wrap ((k : Int) + gn - 1) = (k : Int) + gn - 1 := IntWalk.i64_in _ (by omega)
      have HR := Alg.hid hR
      have HQ := Alg.hid hQ
      clear hR hQ
      go_wp2
      go_quiet ((go_at_call 26; exact Calls.quiet_of_same (modp_Mul p (nth R (k + gn - 1)) inv _ (by omega) hp lR (by omega))))
      clear s1 s2 s3 s4 s5
      have hx' := (hx.drewN nq).setCell (i := k) (u := .int .u32 (mulM p (nth R (k + gn - 1)) inv : Nat)) (g := w3.heap.size) (by simpa using hqg4)
      have d2 := hx'.cell' 1 1 _ _ rfl rfl
      generalize hc : mulM p (nth R (k + gn - 1)) inv = c at *
      have hcp : c < p := by rw [← hc]; exact mulM_lt _ _ _ (by omega)
      have HC := Alg.hid hc
      clear hc
      have HQ' : Hid (Arr ((wo.drewN nq).setCell ⟨w3.heap.size, k, none⟩ (.int .u32 (c : Nat))) 22 w.heap.size w3.heap.size m m (Q.set k c)) := (HQ.out.mono (Alg.below_drewN wo nq)).set k c (by omega)
      have HR' : Hid (Arr ((wo.drewN nq).setCell ⟨w3.heap.size, k, none⟩ (.int .u32 (c : Nat))) 22 w2.heap.size rg fn rcap R) := (HR.out.mono (Alg.below_drewN wo nq)).other k hrne _
      go_wp2
      go_loopw [69] (fun v wr => ∃ i : Nat, v = .int .i64 i ∧ i ≤ gn ∧ Arr wr 22 w2.heap.size rg fn rcap (innerD p c k gl R i) ∧ Arr wr 22 w.heap.size w3.heap.size m m (Q.set k c) ∧ Boxes w wr [#[.int .u32 (p : Int), .slice fa fn fcap], #[.int .u32 q, .slice (some ⟨b', off', none⟩) gn gcap], #[.int .u32 0, .slice none 0 0], #[.int .u32 0, .slice none 0 0]]) (fun v _ => gn - (intOf v).toNat)
      case atStart => exact ⟨0, rfl, Nat.zero_le _, HR'.out, HQ'.out, hx'⟩
      case round =>
        clear hx' d2 HR' HQ' HR HQ hx d0 cR lR cQ fQ
        obtain ⟨i, rfl, hi', hR, hQ, hx⟩ := hrel
        have d0 : wr.cell? ⟨w.heap.size, 0, none⟩ = some (.int .u32 (p : Int)) := hx.cell' 0 0 _ _ rfl rfl
        by_cases hin : i < gn
        · have c2 : wr.cell? ⟨b', off' + i, none⟩ = some (.int .u32 (nth gl i : Nat)) := (hx.below.cell (p := ⟨b', off' + i, none⟩) (cell_lt (HG.out i hin))).trans (HG.out i hin)
          have hki : k + i < fn := by omega
          have cR := hR.cell hki
          have fR := hR.frozen (k + i)
          have lR := hR.lt (k + i)
          have lG := hg.lt i
          have HR := Alg.hid hR
          have HQ := Alg.hid hQ
          clear hR hQ
          go_wp2
          have s1 : (0 : Int) ≤ (k : Int) + i := by omega
          have s2 : (k : Int) + i < fn := by omega
          have s3 : ((k : Int) + i).toNat = k + i := by omega
          have s4 : IntKind.i64.wrap ((k : Int) + i) = (k : Int) + i := IntWalk.i64_in _ (by omega)
          go_still_tail 19, (by kernel_rfl)
          still_call (modp_Mul p c (nth gl i) _ (by omega) hp (by omega) lG)
          repeat still_step
          still_call (modp_Sub p (nth (innerD p c k gl R i) (k + i)) (mulM p c (nth gl i)) _ (by omega) hp lR (Nat.le_of_lt (mulM_lt _ _ _ (by omega))))
          repeat still_step
          refine wpStill_nil ?_
          clear s4 s3
          change wpList _ _ _ _ _ wr.drew
          go_wp2
          go_roundw
          case rel => exact ⟨i + 1, by go_num, by omega, (HR.out.set (k + i) _ (Nat.lt_trans (subM_lt _ _ _ (by omega)) hp)).drew, (HQ.out.other (k + i) hrne.symm _).drew, (hx.setCell (by simpa using hrg4) _).drew⟩
          case measure => simp [intOf]; omega
        · have ei : i = gn := by omega
          have hst := stepsD_step p inv gl m fl j k gn Q R hS hkj hg.len
          rw [HC.out, ← ei] at hst
          have HR := Alg.hid hR
          have HQ := Alg.hid hQ
          have HS := Alg.hid hst
          clear hst ei hR hQ
          go_wp2
          go_roundw
          case rel =>
            refine ⟨j + 1, by omega, ?_, by rw [HS.out]; exact HR.out, by rw [HS.out]; exact HQ.out, hx⟩
            by_cases k0 : k = 0
            · exact Or.inr ⟨by subst k0; rfl, by omega⟩
            · exact Or.inl ⟨k - 1, by congr 1; omega, by omega⟩
          case measure => simp [intOf]
    · have hRs := hR.sl hrc
      have hQs := hQ.sl (by omega)
      have hlR := hR.len
      have hlQ := hQ.len
      have hx0 := hx.less 2
      have HRs := Alg.hid hRs
      have HQs := Alg.hid hQs
      have hRd := hRs.drew
      have hQd := hQs.drew
      clear hR hQ hRs hQs
      have hz := hx.size
      go_wp2
      go_region_held3 (fun W => W.cell? ⟨w.heap.size, 0, none⟩ = some (.int .u32 (p : Int)) ∧ W.cell? ⟨w.heap.size, 1, none⟩ = some (.slice fa fn fcap) ∧ W.cell? ⟨w.heap.size + 1, 0, none⟩ = some (.int .u32 q) ∧ W.cell? ⟨w.heap.size + 1, 1, none⟩ = some (.slice (some ⟨b', off', none⟩) gn gcap) ∧ Boxes w W [#[.int .u32 (p : Int), .slice fa fn fcap], #[.int .u32 q, .slice (some ⟨b', off', none⟩) gn gcap]])
        (first | (exact K.out _ (by assumption)) | (exact K.out _ hx0.drew) | (exact K.out _ (Boxes.setCell (Boxes.setCell hx5' (by simp; try omega) _) (by simp; try omega) _)) | (exact K.out _ (Boxes.setCell (Boxes.setCell (Boxes.setCell (Boxes.setCell hx5' (by simp; try omega) _) (by simp; try omega) _) (by simp; try omega) _) (by simp; try omega) _)) | fail)
        (first
          | (go_at_call 85; (with_reducible refine (ppoly_of p _ j j Q wo.drew hQd).mono ?_); rintro e w4 ⟨a1, n1, cap1, rfl, hs4, hb4, hpv4⟩; have hx4 := hx.drew.mono hb4; have hx4' := hx4.less 2; have hr4 := hRd.mono hb4)
          | (go_at_call 85; (with_reducible refine (ppoly_of p _ fn rcap R w4 hr4).mono ?_); rintro e w5 ⟨a2, n2, cap2, rfl, hs5, hb5, hpv5⟩; have hx5 := hx4.mono hb5; have hx5' := hx5.less 2; have hq5 := hs4.mono hb5; have e0 : w5.cell? ⟨w.heap.size + 1 + 1, 0, none⟩ = some (.int .u32 0) := hx5.cell' 2 0 _ _ rfl rfl; have e1 : w5.cell? ⟨w.heap.size + 1 + 1, 1, none⟩ = some (.slice none 0 0) := hx5.cell' 2 1 _ _ rfl rfl; have e2 : w5.cell? ⟨w.heap.size + 1 + 1 + 1, 0, none⟩ = some (.int .u32 0) := hx5.cell' 3 0 _ _ rfl rfl; have e3 : w5.cell? ⟨w.heap.size + 1 + 1 + 1, 1, none⟩ = some (.slice none 0 0) := hx5.cell' 3 1 _ _ rfl rfl; have f0 : w5.frozen? ⟨w.heap.size + 1 + 1, 0, none⟩ = false := hx5.frozen' 2 0 (by simp); have f1 : w5.frozen? ⟨w.heap.size + 1 + 1, 1, none⟩ = false := hx5.frozen' 2 1 (by simp); have f2 : w5.frozen? ⟨w.heap.size + 1 + 1 + 1, 0, none⟩ = false := hx5.frozen' 3 0 (by simp); have f3 : w5.frozen? ⟨w.heap.size + 1 + 1 + 1, 1, none⟩ = false := hx5.frozen' 3 1 (by simp)) | fail)
      all_goals
        go_wp2
        (try simp only [Exit.inBlock, Exit.then])
        refine bodyPost_ret (v := .tuple #[.agg #[.int .u32 (p : Int), .slice a1 n1 cap1], .agg #[.int .u32 (p : Int), .slice a2 n2 cap2], .int .i64 0]) (by simp [results, Tryd.results81, go_sem, e0, e1, e2, e3]) rfl ?_
        have hz4 := hx4.size
        simp at hz hz4
        have hz0' : wo.drew.heap.size = wo.heap.size := rfl
        have hofq : Off a1 n1 (w.heap.size + 1 + 1) := hpv4.offb (by omega) (by omega)
        have hofq' : Off a1 n1 (w.heap.size + 1 + 1 + 1) := hpv4.offb (by omega) (by omega)
        have hof : Off a2 n2 (w.heap.size + 1 + 1) := hpv5.offb (by omega) (by omega)
        have hof' : Off a2 n2 (w.heap.size + 1 + 1 + 1) := hpv5.offb (by omega) (by omega)
        have hbz : Below w.heap.size w w5 := hx5.below
        rw [hS]
        refine ⟨_, _, _, _, _, _, rfl, ?_, ?_, ?_, hpv4.new (by omega) (by omega), hpv5.new (by omega) (by omega)⟩
        · first
            | exact (((hq5.setCell hofq _).setCell hofq _).setCell hofq' _).setCell hofq' _
            | exact (((hq5.setCell hofq' _).setCell hofq' _).setCell hofq _).setCell hofq _
        · first
            | exact (((hs5.setCell hof _).setCell hof _).setCell hof' _).setCell hof' _
            | exact (((hs5.setCell hof' _).setCell hof' _).setCell hof _).setCell hof _
        · exact (((hbz.setCell (by simp; try omega) _).setCell (by simp; try omega) _).setCell (by simp; try omega) _).setCell (by simp; try omega) _
theorem ppoly_DivMod (p : Nat) (fa : Option Addr) (fn fcap : Nat) (fl : List Nat) (ga : Option Addr) (gn gcap : Nat) (gl : List Nat) (q : Int) (w : World) (hf : Sl w fa fn fcap fl) (hg : Sl w ga gn gcap gl)
    (hg0 : 0 < gn) (hlead : nth gl (gn - 1) ≠ 0) (hp0 : 1 < p) (hp : p < 4294967296) (hfn : fn ≤ 1099511627776) (hgn : gn ≤ 1099511627776) :
    Calls Tryd.prog 81 #[.agg #[.int .u32 p, .slice fa fn fcap], .agg #[.int .u32 q, .slice ga gn gcap]] w (RetD p (divL p fl gl) w) := by
  unfold divL divN
  rw [hf.len, hg.len]
  by_cases h : fn < gn
  · rw [show fn + 1 - gn = 0 by omega]
    exact ppoly_DivLess p fa fn fcap fl ga gn gcap gl q w hf hg hg0 h hlead hp0 hp hfn hgn
  · exact ppoly_DivMore p fa fn fcap fl ga gn gcap gl q w hf hg hg0 (fn + 1 - gn) (by omega) (by omega) hlead hp0 hp hfn hgn
end Go.Proofs.YtbnjmeeaaieicaaDoor
end
