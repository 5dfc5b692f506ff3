/- Contract of ppoly.DivMod. -/
import Derived.Test.YtcdflpkbdabljaaDoorE4
import Derived.Test.YtcdflpkbdabljaaDoorE2
open Alg Go Go.RowKit
namespace Alg
theorem Arr.other {w : World} {e : TypeId} {B g n cap : Nat} {l : List Nat} (h : Arr w e B g n cap l) {g' : Nat} (i : Nat) (hne : g ≠ g') (u : Value) : Arr (w.setCell ⟨g', i, none⟩ u) e B g n cap l :=
  ⟨h.own.kept (row := some g') ⟨rfl, rfl, rfl, by simp [World.setCell], fun k _ hk => Below.heap_setCell w ⟨g', i, none⟩ u k (fun e => hk (by rw [e]))⟩ (Or.inr (by simp [Value.ownBlock]; omega)), h.lt⟩
theorem Arr.weak {w : World} {e : TypeId} {B B' g n cap : Nat} {l : List Nat} (h : Arr w e B g n cap l) (hB : B' ≤ B) : Arr w e B' g n cap l := by
  refine ⟨?_, h.lt⟩
  obtain ⟨h1, h2⟩ := h.own
  refine ⟨h1, ?_⟩
  rcases h2 with h2 | ⟨g', cap', cur, h3, h4, h5⟩
  · exact Or.inl h2
  · exact Or.inr ⟨g', cap', cur, h3, Nat.le_trans hB h4, h5⟩
/-- how many steps a division has -/
def divN (f g : List Nat) : Nat := f.length + 1 - g.length
/-- quotient and rest -/
def divL (p : Nat) (f g : List Nat) : List Nat × List Nat := stepsD p (powM p (nth g (g.length - 1)) (p - 2)) g (divN f g) f (divN f g)
/-- the call hands back quotient and remainder -/
def RetD (p : Nat) (L : List Nat × List Nat) (w : World) (e : Ending) (w' : World) : Prop :=
  ∃ a n cap b m cap', e = .returned (.tuple #[.agg #[.int .u32 (p : Nat), .slice a n cap], .agg #[.int .u32 (p : Nat), .slice b m cap'], .int .i64 0]) ∧ Sl w' a n cap (trim L.1) ∧ Sl w' b m cap' (trim L.2) ∧ Below w.heap.size w w' ∧ Prov w [] a n ∧ Prov w [] b m
end Alg
namespace Go.Proofs.YtcdflpkbdabljaaDoor
open Go.RowKit
theorem ppoly_Div0 (p : Nat) (fa : Option Addr) (fn fcap : Nat) (ga : Option Addr) (gcap : Nat) (q : Int) (w : World) :
    Calls Tryd.prog 65 #[.agg #[.int .u32 p, .slice fa fn fcap], .agg #[.int .u32 q, .slice ga 0 gcap]] w fun e w' => e = .returned (.tuple #[.agg #[.int .u32 0, .slice none 0 0], .agg #[.int .u32 0, .slice none 0 0], .int .i64 3]) ∧ Below w.heap.size w w' := by
  have hbx := boxes4 w #[.int .u32 (p : Int), .slice fa fn fcap] #[.int .u32 q, .slice ga 0 gcap] #[.int .u32 0, .slice none 0 0] #[.int .u32 0, .slice none 0 0] 47 47 47 47
  have hbw := hbx.below
  go_enter Tryd.func65, Tryd.ntmps65
  go_wp2
  (try simp only [Exit.inBlock, Exit.then])
  refine bodyPost_ret (v := .tuple #[.agg #[.int .u32 0, .slice none 0 0], .agg #[.int .u32 0, .slice none 0 0], .int .i64 3]) (by simp [results, Tryd.results65, go_sem]) rfl ?_
  exact ⟨rfl, by go_grown⟩
set_option maxRecDepth 100000 in
set_option maxHeartbeats 2000000 in
theorem ppoly_DivLess (p : Nat) (fa : Option Addr) (fn fcap : Nat) (fl : List Nat) (ga : Option Addr) (gn gcap : Nat) (gl : List Nat) (q : Int) (w : World) (hf : Sl w fa fn fcap fl) (hg : Sl w ga gn gcap gl)
    (hg0 : 0 < gn) (hlt : fn < gn) (hlead : nth gl (gn - 1) ≠ 0) (hp0 : 1 < p) (hp : p < 4294967296) (hfn : fn ≤ 1099511627776) (hgn : gn ≤ 1099511627776) :
    Calls Tryd.prog 65 #[.agg #[.int .u32 p, .slice fa fn fcap], .agg #[.int .u32 q, .slice ga gn gcap]] w (RetD p ([], fl) w) := by
  rcases hg.rd with h0 | ⟨b', off', rfl, hcg⟩
  · omega
  clear hcg
  have hbx := boxes4 w #[.int .u32 (p : Int), .slice fa fn fcap] #[.int .u32 q, .slice (some ⟨b', off', none⟩) gn gcap] #[.int .u32 0, .slice none 0 0] #[.int .u32 0, .slice none 0 0] 47 47 47 47
  have hbxl := hbx.less 2
  have hgb : ((gn : Int) == 0) = false := by simp; omega
  have hgm := hg.lt (gn - 1)
  have K : Hid (∀ W, Boxes w W [#[.int .u32 (p : Int), .slice fa fn fcap], #[.int .u32 q, .slice (some ⟨b', off', none⟩) gn gcap]] → W.cell? ⟨w.heap.size, 0, none⟩ = some (.int .u32 (p : Int)) ∧ W.cell? ⟨w.heap.size, 1, none⟩ = some (.slice fa fn fcap) ∧ W.cell? ⟨w.heap.size + 1, 0, none⟩ = some (.int .u32 q) ∧ W.cell? ⟨w.heap.size + 1, 1, none⟩ = some (.slice (some ⟨b', off', none⟩) gn gcap) ∧ Boxes w W [#[.int .u32 (p : Int), .slice fa fn fcap], #[.int .u32 q, .slice (some ⟨b', off', none⟩) gn gcap]]) :=
    fun W h => ⟨h.cell' 0 0 _ _ rfl rfl, h.cell' 0 1 _ _ rfl rfl, h.cell' 1 0 _ _ rfl rfl, h.cell' 1 1 _ _ rfl rfl, h⟩
  go_enter Tryd.func65, Tryd.ntmps65
  go_wp2
  go_region_held3 (fun W => W.cell? ⟨w.heap.size, 0, none⟩ = some (.int .u32 (p : Int)) ∧ W.cell? ⟨w.heap.size, 1, none⟩ = some (.slice fa fn fcap) ∧ W.cell? ⟨w.heap.size + 1, 0, none⟩ = some (.int .u32 q) ∧ W.cell? ⟨w.heap.size + 1, 1, none⟩ = some (.slice (some ⟨b', off', none⟩) gn gcap) ∧ Boxes w W [#[.int .u32 (p : Int), .slice fa fn fcap], #[.int .u32 q, .slice (some ⟨b', off', none⟩) gn gcap]])
    (first | (exact K.out _ (by assumption)) | (exact K.out _ hbxl.drew) | fail)
    (first
      | (go_at_call 71; refine (ppoly_lead q (some ⟨b', off', none⟩) gn gcap gl _ ((hg.mono hbx.below).drew)).mono ?_; rintro e w1 ⟨rfl, hb1⟩; have hx1 := hbx.drew.mono hb1; have hx1' := hx1.less 2)
      | (go_at_call 30; refine (modp_Inv p (nth gl (gn - 1)) _ hp0 hp hgm hlead).mono ?_; rintro e w2 ⟨rfl, rfl⟩) | fail)
  have hf1 := hf.mono hx1.below
  have d1 : w2.cell? ⟨w.heap.size, 1, none⟩ = some (.slice fa fn fcap) := hx1.cell' 0 1 _ _ rfl rfl
  go_wp2_with fail
  refine (clone_any fa fn fcap fl _ hf1 hfn).mono ?_
  rintro e w3 ⟨v, rfl, hgr, hb3⟩
  have hx3 := hx1.mono hb3
  have hx3' := hx3.less 2
  obtain ⟨ra, rcap, rfl, hr, hrown⟩ := hgr.sl
  rw [hf.len] at hr hrown ⊢
  go_wp2
  go_loopw [12] (fun v wr => v = .int .i64 (-1) ∧ wr = w3) (fun _ _ => 0)
  case atStart => exact ⟨rfl, rfl⟩
  case round =>
    obtain ⟨rfl, rfl⟩ := hrel
    have d0 : wr.cell? ⟨w.heap.size, 0, none⟩ = some (.int .u32 (p : Int)) := hx3.cell' 0 0 _ _ rfl rfl
    have HR := Alg.hid hrown
    have hz := hx1.size
    have hnil : Sl wr.drew none 0 0 [] := Sl.of_nil _ _ _ (by omega)
    clear hgr hrown
    go_wp2
    go_region_held3 (fun W => W.cell? ⟨w.heap.size, 0, none⟩ = some (.int .u32 (p : Int)) ∧ W.cell? ⟨w.heap.size, 1, none⟩ = some (.slice fa fn fcap) ∧ W.cell? ⟨w.heap.size + 1, 0, none⟩ = some (.int .u32 q) ∧ W.cell? ⟨w.heap.size + 1, 1, none⟩ = some (.slice (some ⟨b', off', none⟩) gn gcap) ∧ Boxes w W [#[.int .u32 (p : Int), .slice fa fn fcap], #[.int .u32 q, .slice (some ⟨b', off', none⟩) gn gcap]])
      (first | (exact K.out _ (by assumption)) | (exact K.out _ hx3'.drew) | (exact K.out _ (Boxes.setCell (Boxes.setCell hx5' (by simp; try omega) _) (by simp; try omega) _)) | (exact K.out _ (Boxes.setCell (Boxes.setCell (Boxes.setCell (Boxes.setCell hx5' (by simp; try omega) _) (by simp; try omega) _) (by simp; try omega) _) (by simp; try omega) _)) | fail)
      (first
        | (go_at_call 72; (with_reducible refine (ppoly_of p none 0 0 [] wr.drew hnil).mono ?_); rintro e w4 ⟨a1, n1, cap1, rfl, hs4, hb4, hpv4⟩; have hx4 := hx3.drew.mono hb4; have hx4' := hx4.less 2; have hr4 := hr.drew.mono hb4)
        | (go_at_call 72; (with_reducible refine (ppoly_of p ra fn rcap fl w4 hr4).mono ?_); rintro e w5 ⟨a2, n2, cap2, rfl, hs5, hb5, hpv5⟩; have hx5 := hx4.mono hb5; have hx5' := hx5.less 2; have hq5 := hs4.mono hb5; have e0 : w5.cell? ⟨w.heap.size + 1 + 1, 0, none⟩ = some (.int .u32 0) := hx5.cell' 2 0 _ _ rfl rfl; have e1 : w5.cell? ⟨w.heap.size + 1 + 1, 1, none⟩ = some (.slice none 0 0) := hx5.cell' 2 1 _ _ rfl rfl; have e2 : w5.cell? ⟨w.heap.size + 1 + 1 + 1, 0, none⟩ = some (.int .u32 0) := hx5.cell' 3 0 _ _ rfl rfl; have e3 : w5.cell? ⟨w.heap.size + 1 + 1 + 1, 1, none⟩ = some (.slice none 0 0) := hx5.cell' 3 1 _ _ rfl rfl; have f0 : w5.frozen? ⟨w.heap.size + 1 + 1, 0, none⟩ = false := hx5.frozen' 2 0 (by simp); have f1 : w5.frozen? ⟨w.heap.size + 1 + 1, 1, none⟩ = false := hx5.frozen' 2 1 (by simp); have f2 : w5.frozen? ⟨w.heap.size + 1 + 1 + 1, 0, none⟩ = false := hx5.frozen' 3 0 (by simp); have f3 : w5.frozen? ⟨w.heap.size + 1 + 1 + 1, 1, none⟩ = false := hx5.frozen' 3 1 (by simp)) | fail)
    all_goals
      go_wp2
      (try simp only [Exit.inBlock, Exit.then])
      refine bodyPost_ret (v := .tuple #[.agg #[.int .u32 (p : Int), .slice a1 n1 cap1], .agg #[.int .u32 (p : Int), .slice a2 n2 cap2], .int .i64 0]) (by simp [results, Tryd.results65, go_sem, e0, e1, e2, e3]) rfl ?_
      have hn1 : n1 = 0 := by have := hq5.len; simpa [trim] using this.symm
      subst hn1
      have hfl := hf.len
      have hz4 := hx4.size
      simp at hz hz4
      have hof : Off a2 n2 (w.heap.size + 1 + 1) := own_off hpv5 HR.out hs5 (by omega) (by omega) hfl
      have hof' : Off a2 n2 (w.heap.size + 1 + 1 + 1) := own_off hpv5 HR.out hs5 (by omega) (by omega) hfl
      have hbz : Below w.heap.size w w5 := hx5.below
      refine ⟨_, _, _, _, _, _, rfl, (((hq5.setCell (Or.inl rfl) _).setCell (Or.inl rfl) _).setCell (Or.inl rfl) _).setCell (Or.inl rfl) _, ?_, ?_, Prov.empty, own_prov hpv5 HR.out hs5 (by omega) (by omega) hfl⟩
      · first
          | exact (((hs5.setCell hof _).setCell hof _).setCell hof' _).setCell hof' _
          | exact (((hs5.setCell hof' _).setCell hof' _).setCell hof _).setCell hof _
      · exact (((hbz.setCell (by simp; try omega) _).setCell (by simp; try omega) _).setCell (by simp; try omega) _).setCell (by simp; try omega) _
end Go.Proofs.YtcdflpkbdabljaaDoor
