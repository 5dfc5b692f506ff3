/- Contract of the reference's DivMod. Contract of the reference's DivMod, the long case. Contract of the reference's DivMod, whole; slices.Equal; ppoly.Same. The walk of PpolyDivides. Contract of ppoly.divides. -/
import Derived.Test.YtbnjmeeaaieicaaDoorW13
import Derived.Test.YtbnjmeeaaieicaaDoorE2
import Derived.Test.YtbnjmeeaaieicaaDoorE1
import Derived.Test.YtbnjmeeaaieicaaDoorA9
import Derived.Test.YtbnjmeeaaieicaaDoorE4
section
open Alg Go Go.RowKit
namespace Alg
theorem Sl.news {w : World} {x : Addr} {n cap : Nat} {l : List Nat} (h : Sl w (some x) n cap l) : ∀ j u, (vals l)[j]? = some u → w.cell? (x.add j) = some u := by
  intro j u hj
  have hsl := h.len
  have hjl : j < l.length := by
    rcases Nat.lt_or_ge j l.length with h1 | h1
    · exact h1
    · rw [List.getElem?_eq_none (by simpa [vals] using h1)] at hj; exact absurd hj (by simp)
  rw [vals_get l j hjl] at hj
  have hu : Value.int .u32 (nth l j : Nat) = u := by simpa using hj
  subst hu
  rcases h.rd with h0 | ⟨b, off, ha, hc⟩
  · omega
  · simp only [Option.some.injEq] at ha
    subst ha
    have hcj := hc j (by omega)
    have e : (⟨b, off, none⟩ : Addr).add j = ⟨b, off + j, none⟩ := by
      unfold Addr.add; split
      · rename_i h0; subst h0; rfl
      · rfl
    rw [e]; exact hcj
theorem own_fresh (w : World) (U : TypeId) : (w.alloc (.cells #[] U)).ownsRow w.heap.size U 1 (.slice (some ⟨w.heap.size, 0, none⟩) 0 0) 0 [] := by
  refine ⟨rfl, Or.inr ⟨w.heap.size, 0, #[], rfl, Nat.le_refl _, ?_, Nat.le_refl _, Nat.zero_le _, rfl, rfl⟩⟩
  show (w.heap.push _)[w.heap.size]? = _
  rw [Array.getElem?_push_size]
theorem own_row_le (B : Nat) : ∀ k, (Value.slice (some ⟨B, 0, none⟩) 0 0).ownBlock = some k → B ≤ k := by
  intro k hk
  have hk' : some B = some k := hk
  have := Option.some.inj hk'
  omega
end Alg
namespace Go.Proofs.YtbnjmeeaaieicaaDoor
open Go.RowKit
theorem Tryd.infoU15 : (Tryd.prog.info? 22).map (fun i => (i.zero, i.size, i.bytes)) = some (some (.int .u32 0), 1, 4) := by kernel_rfl
theorem ref_Div0 (p : Nat) (fa : Option Addr) (fn fcap : Nat) (ga : Option Addr) (gcap : Nat) (q : Int) (w : World) :
    Calls Tryd.prog 119 #[.agg #[.int .u32 p, .slice fa fn fcap], .agg #[.int .u32 q, .slice ga 0 gcap]] w fun e w' => e = .returned (.tuple #[.agg #[.int .u32 0, .slice none 0 0], .agg #[.int .u32 0, .slice none 0 0], .int .i64 3]) ∧ Below w.heap.size w w' := by
  have hbx := boxes4 w #[.int .u32 (p : Int), .slice fa fn fcap] #[.int .u32 q, .slice ga 0 gcap] #[.int .u32 0, .slice none 0 0] #[.int .u32 0, .slice none 0 0] 47 47 47 47
  have hbw := hbx.below
  go_enter Tryd.func119, Tryd.ntmps119
  go_wp2
  (try simp only [Exit.inBlock, Exit.then])
  refine bodyPost_ret (v := .tuple #[.agg #[.int .u32 0, .slice none 0 0], .agg #[.int .u32 0, .slice none 0 0], .int .i64 3]) (by simp [results, Tryd.results119, go_sem]) rfl ?_
  exact ⟨rfl, by go_grown⟩
set_option maxRecDepth 100000 in
set_option maxHeartbeats 2000000 in
theorem ref_DivLess1 (p : Nat) (x : Addr) (fn fcap : Nat) (fl : List Nat) (ga : Option Addr) (gn gcap : Nat) (gl : List Nat) (q : Int) (w : World) (hf : Sl w (some x) fn fcap fl) (hg : Sl w ga gn gcap gl)
    (hg0 : 0 < gn) (hlt : fn < gn) (hp0 : 1 < p) (hp : p < 4294967296) (hfn : fn ≤ 1099511627776) (hgn : gn ≤ 1099511627776) :
    Calls Tryd.prog 119 #[.agg #[.int .u32 p, .slice (some x) fn fcap], .agg #[.int .u32 q, .slice ga gn gcap]] w (RetD p ([], fl) w) := by
  obtain ⟨i0, hi, hz0, hz1, hz2⟩ := info_parts Tryd.infoU15
  rcases hg.rd with h0 | ⟨b', off', rfl, hcg⟩
  · omega
  have HG := Alg.hid hcg
  clear hcg
  have hbx := boxes4 w #[.int .u32 (p : Int), .slice (some x) fn fcap] #[.int .u32 q, .slice (some ⟨b', off', none⟩) gn gcap] #[.int .u32 0, .slice none 0 0] #[.int .u32 0, .slice none 0 0] 47 47 47 47
  have hbxl := hbx.less 2
  have hgb : ((gn : Int) == 0) = false := by simp; omega
  have hgm := hg.lt (gn - 1)
  have K : Hid (∀ W, Boxes w W [#[.int .u32 (p : Int), .slice (some x) fn fcap], #[.int .u32 q, .slice (some ⟨b', off', none⟩) gn gcap]] → W.cell? ⟨w.heap.size, 0, none⟩ = some (.int .u32 (p : Int)) ∧ W.cell? ⟨w.heap.size, 1, none⟩ = some (.slice (some x) fn fcap) ∧ W.cell? ⟨w.heap.size + 1, 0, none⟩ = some (.int .u32 q) ∧ W.cell? ⟨w.heap.size + 1, 1, none⟩ = some (.slice (some ⟨b', off', none⟩) gn gcap) ∧ W.cell? ⟨b', off' + (gn - 1), none⟩ = some (.int .u32 (nth gl (gn - 1) : Nat)) ∧ Boxes w W [#[.int .u32 (p : Int), .slice (some x) fn fcap], #[.int .u32 q, .slice (some ⟨b', off', none⟩) gn gcap]]) :=
    fun W h => ⟨h.cell' 0 0 _ _ rfl rfl, h.cell' 0 1 _ _ rfl rfl, h.cell' 1 0 _ _ rfl rfl, h.cell' 1 1 _ _ rfl rfl, (h.below.cell (p := ⟨b', off' + (gn - 1), none⟩) (cell_lt (HG.out (gn - 1) (by omega)))).trans (HG.out (gn - 1) (by omega)), h⟩
  have hinv : powM p (nth gl (gn - 1)) (p - 2) < p := powM_lt _ _ _ (by omega)
  have s1 : (0 : Int) ≤ (gn : Int) - 1 := by omega
  have s1' : (1 : Int) ≤ (gn : Int) := by omega
  have s2 : (gn : Int) - 1 < gn := by omega
  have s3 : ((gn : Int) - 1).toNat = gn - 1 := by omega
  have s4 : IntKind.i64.wrap ((gn : Int) - 1) = (gn : Int) - 1 := IntWalk.i64_in _ (by omega)
  have s5 : IntKind.u64.wrap (powM p (nth gl (gn - 1)) (p - 2) : Int) = (powM p (nth gl (gn - 1)) (p - 2) : Int) := IntWalk.u64_in _ (by omega)
  go_enter Tryd.func119, Tryd.ntmps119
  go_wp2
  go_region_held3 (fun W => W.cell? ⟨w.heap.size, 0, none⟩ = some (.int .u32 (p : Int)) ∧ W.cell? ⟨w.heap.size, 1, none⟩ = some (.slice (some x) fn fcap) ∧ W.cell? ⟨w.heap.size + 1, 0, none⟩ = some (.int .u32 q) ∧ W.cell? ⟨w.heap.size + 1, 1, none⟩ = some (.slice (some ⟨b', off', none⟩) gn gcap) ∧ W.cell? ⟨b', off' + (gn - 1), none⟩ = some (.int .u32 (nth gl (gn - 1) : Nat)) ∧ Boxes w W [#[.int .u32 (p : Int), .slice (some x) fn fcap], #[.int .u32 q, .slice (some ⟨b', off', none⟩) gn gcap]])
    (first | (exact K.out _ (by assumption)) | (exact K.out _ hbxl.drew) | fail)
    (first
      | (go_at_call 86; refine (ref_inverse p (nth gl (gn - 1)) _ hp0 hp hgm).mono ?_; rintro e w2 ⟨rfl, hw2⟩; have hx1 : Boxes w w2 [#[.int .u32 (p : Int), .slice (some x) fn fcap], #[.int .u32 q, .slice (some ⟨b', off', none⟩) gn gcap], #[.int .u32 0, .slice none 0 0], #[.int .u32 0, .slice none 0 0]] := (by rw [hw2]; exact hbx.drew); clear hw2; have hx1' := hx1.less 2) | fail)
  clear s1 s1' s2 s3 s4 s5
  generalize powM p (nth gl (gn - 1)) (p - 2) = inv at *
  have hf1 := hf.mono hx1.below
  have d1 : (w2.alloc (.cells #[] 22)).cell? ⟨w.heap.size, 1, none⟩ = some (.slice (some x) fn fcap) := (hx1.alloc_any _).cell' 0 1 _ _ rfl rfl
  have hs4 : w.heap.size + 4 ≤ w2.heap.size := by have := hx1.size; simpa using this
  have HN := Alg.hid (Sl.news (hf1.mono ((Below.refl w2.heap.size w2).alloc (Nat.le_refl _) (.cells #[] 22))))
  have HO := Alg.hid (own_fresh w2 22)
  have H1 := Alg.hid (vals_one fl)
  have HV : Hid ((vals fl).length = fn * 1) := Alg.hid (by simp [vals, hf.len])
  have q1 : 0 + fn ≤ maxLen := by unfold maxLen; omega
  have q2 : (0 + fn) * 4 ≤ 140737488355328 := by omega
  go_wp2_with (at_builtin; refine wpList_append_own _ rfl _ _ 23 rfl w2.heap.size 22 i0 (.int .u32 0) 1 4 Tryd.underlying23 hi hz0 hz1 hz2 rfl Nat.one_pos _ 0 [] rfl HO.out x fn fcap (vals fl) rfl HV.out HN.out H1.out q1 q2 (size_le_alloc _ _) ?_; intro v' w3 hown1 hgrow _; have hb3 : Below w2.heap.size w2 w3 := ((Below.refl w2.heap.size w2).alloc (Nat.le_refl _) _).grown hgrow (by simp) (own_row_le _); have hx3 := hx1.mono hb3; have dd1 : w3.cell? ⟨w.heap.size, 1, none⟩ = some (.slice (some x) fn fcap) := hx3.cell' 0 1 _ _ rfl rfl)
  have hgr : Gr w3 22 w2.heap.size v' fn fl := ⟨by simpa using hown1, hf.lt⟩
  obtain ⟨ra, rcap, rfl, hr, hrown⟩ := hgr.sl
  clear hgr hown1 hgrow HN HO H1 HV
  have HR := Alg.hid hrown
  clear hrown
  have hx3' := hx3.less 2
  go_loopw [11] (fun v wr => (∃ z : Int, v = .int .i64 z ∧ z < 0) ∧ wr = w3) (fun _ _ => 0)
  case atStart => exact ⟨⟨_, rfl, by omega⟩, rfl⟩
  case round =>
    obtain ⟨⟨z, rfl, hz⟩, rfl⟩ := hrel
    have hnil : Sl wr.drew none 0 0 [] := Sl.of_nil _ _ _ (by omega)
    have hrd := hr.drew
    go_wp2
    go_region_held3 (fun W => W.cell? ⟨w.heap.size, 0, none⟩ = some (.int .u32 (p : Int)) ∧ W.cell? ⟨w.heap.size, 1, none⟩ = some (.slice (some x) fn fcap) ∧ W.cell? ⟨w.heap.size + 1, 0, none⟩ = some (.int .u32 q) ∧ W.cell? ⟨w.heap.size + 1, 1, none⟩ = some (.slice (some ⟨b', off', none⟩) gn gcap) ∧ W.cell? ⟨b', off' + (gn - 1), none⟩ = some (.int .u32 (nth gl (gn - 1) : Nat)) ∧ Boxes w W [#[.int .u32 (p : Int), .slice (some x) fn fcap], #[.int .u32 q, .slice (some ⟨b', off', none⟩) gn gcap]])
      (first | (exact K.out _ (by assumption)) | (exact K.out _ hx3'.drew) | (exact K.out _ (Boxes.setCell (Boxes.setCell hx5' (by simp; try omega) _) (by simp; try omega) _)) | (exact K.out _ (Boxes.setCell (Boxes.setCell (Boxes.setCell (Boxes.setCell hx5' (by simp; try omega) _) (by simp; try omega) _) (by simp; try omega) _) (by simp; try omega) _)) | fail)
      (first
        | (go_at_call 89; (with_reducible refine (ref_cut p none 0 0 [] wr.drew hnil).mono ?_); rintro e w4 ⟨a1, n1, cap1, rfl, hs4, hb4, hpv4⟩; have hx4 := hx3.drew.mono hb4; have hx4' := hx4.less 2; have hr4 := hrd.mono hb4)
        | (go_at_call 89; (with_reducible refine (ref_cut p ra fn rcap fl w4 hr4).mono ?_); rintro e w5 ⟨a2, n2, cap2, rfl, hs5, hb5, hpv5⟩; have hx5 := hx4.mono hb5; have hx5' := hx5.less 2; have hq5 := hs4.mono hb5; have e0 : w5.cell? ⟨w.heap.size + 1 + 1, 0, none⟩ = some (.int .u32 0) := hx5.cell' 2 0 _ _ rfl rfl; have e1 : w5.cell? ⟨w.heap.size + 1 + 1, 1, none⟩ = some (.slice none 0 0) := hx5.cell' 2 1 _ _ rfl rfl; have e2 : w5.cell? ⟨w.heap.size + 1 + 1 + 1, 0, none⟩ = some (.int .u32 0) := hx5.cell' 3 0 _ _ rfl rfl; have e3 : w5.cell? ⟨w.heap.size + 1 + 1 + 1, 1, none⟩ = some (.slice none 0 0) := hx5.cell' 3 1 _ _ rfl rfl; have f0 : w5.frozen? ⟨w.heap.size + 1 + 1, 0, none⟩ = false := hx5.frozen' 2 0 (by simp); have f1 : w5.frozen? ⟨w.heap.size + 1 + 1, 1, none⟩ = false := hx5.frozen' 2 1 (by simp); have f2 : w5.frozen? ⟨w.heap.size + 1 + 1 + 1, 0, none⟩ = false := hx5.frozen' 3 0 (by simp); have f3 : w5.frozen? ⟨w.heap.size + 1 + 1 + 1, 1, none⟩ = false := hx5.frozen' 3 1 (by simp)) | fail)
    all_goals
      go_wp2
      (try simp only [Exit.inBlock, Exit.then])
      refine bodyPost_ret (v := .tuple #[.agg #[.int .u32 (p : Int), .slice a1 n1 cap1], .agg #[.int .u32 (p : Int), .slice a2 n2 cap2], .int .i64 0]) (by simp [results, Tryd.results119, go_sem, e0, e1, e2, e3]) rfl ?_
      have hn1 : n1 = 0 := by have := hq5.len; simpa [trim] using this.symm
      subst hn1
      have hfl := hf.len
      have hz4 := hx4.size
      simp at hz4
      have hof : Off a2 n2 (w.heap.size + 1 + 1) := own_off hpv5 HR.out hs5 (by omega) (by omega) hfl
      have hof' : Off a2 n2 (w.heap.size + 1 + 1 + 1) := own_off hpv5 HR.out hs5 (by omega) (by omega) hfl
      have hbz : Below w.heap.size w w5 := hx5.below
      refine ⟨_, _, _, _, _, _, rfl, (((hq5.setCell (Or.inl rfl) _).setCell (Or.inl rfl) _).setCell (Or.inl rfl) _).setCell (Or.inl rfl) _, ?_, ?_, Prov.empty, own_prov hpv5 HR.out hs5 (by omega) (by omega) hfl⟩
      · first
          | exact (((hs5.setCell hof _).setCell hof _).setCell hof' _).setCell hof' _
          | exact (((hs5.setCell hof' _).setCell hof' _).setCell hof _).setCell hof _
      · exact (((hbz.setCell (by simp; try omega) _).setCell (by simp; try omega) _).setCell (by simp; try omega) _).setCell (by simp; try omega) _
set_option maxRecDepth 100000 in
set_option maxHeartbeats 2000000 in
theorem ref_DivLess0 (p : Nat) (fcap : Nat) (ga : Option Addr) (gn gcap : Nat) (gl : List Nat) (q : Int) (w : World) (hf : Sl w none 0 fcap []) (hg : Sl w ga gn gcap gl)
    (hg0 : 0 < gn) (hp0 : 1 < p) (hp : p < 4294967296) (hgn : gn ≤ 1099511627776) :
    Calls Tryd.prog 119 #[.agg #[.int .u32 p, .slice none 0 fcap], .agg #[.int .u32 q, .slice ga gn gcap]] w (RetD p ([], []) w) := by
  obtain ⟨i0, hi, hz0, hz1, hz2⟩ := info_parts Tryd.infoU15
  rcases hg.rd with h0 | ⟨b', off', rfl, hcg⟩
  · omega
  have HG := Alg.hid hcg
  clear hcg
  have hbx := boxes4 w #[.int .u32 (p : Int), .slice none 0 fcap] #[.int .u32 q, .slice (some ⟨b', off', none⟩) gn gcap] #[.int .u32 0, .slice none 0 0] #[.int .u32 0, .slice none 0 0] 47 47 47 47
  have hbxl := hbx.less 2
  have hgb : ((gn : Int) == 0) = false := by simp; omega
  have hgm := hg.lt (gn - 1)
  have K : Hid (∀ W, Boxes w W [#[.int .u32 (p : Int), .slice none 0 fcap], #[.int .u32 q, .slice (some ⟨b', off', none⟩) gn gcap]] → W.cell? ⟨w.heap.size, 0, none⟩ = some (.int .u32 (p : Int)) ∧ W.cell? ⟨w.heap.size, 1, none⟩ = some (.slice none 0 fcap) ∧ W.cell? ⟨w.heap.size + 1, 0, none⟩ = some (.int .u32 q) ∧ W.cell? ⟨w.heap.size + 1, 1, none⟩ = some (.slice (some ⟨b', off', none⟩) gn gcap) ∧ W.cell? ⟨b', off' + (gn - 1), none⟩ = some (.int .u32 (nth gl (gn - 1) : Nat)) ∧ Boxes w W [#[.int .u32 (p : Int), .slice none 0 fcap], #[.int .u32 q, .slice (some ⟨b', off', none⟩) gn gcap]]) :=
    fun W h => ⟨h.cell' 0 0 _ _ rfl rfl, h.cell' 0 1 _ _ rfl rfl, h.cell' 1 0 _ _ rfl rfl, h.cell' 1 1 _ _ rfl rfl, (h.below.cell (p := ⟨b', off' + (gn - 1), none⟩) (cell_lt (HG.out (gn - 1) (by omega)))).trans (HG.out (gn - 1) (by omega)), h⟩
  have hinv : powM p (nth gl (gn - 1)) (p - 2) < p := powM_lt _ _ _ (by omega)
  have s1 : (0 : Int) ≤ (gn : Int) - 1 := by omega
  have s1' : (1 : Int) ≤ (gn : Int) := by omega
  have s2 : (gn : Int) - 1 < gn := by omega
  have s3 : ((gn : Int) - 1).toNat = gn - 1 := by omega
  have s4 : IntKind.i64.wrap ((gn : Int) - 1) = (gn : Int) - 1 := IntWalk.i64_in _ (by omega)
  have s5 : IntKind.u64.wrap (powM p (nth gl (gn - 1)) (p - 2) : Int) = (powM p (nth gl (gn - 1)) (p - 2) : Int) := IntWalk.u64_in _ (by omega)
  go_enter Tryd.func119, Tryd.ntmps119
  go_wp2
  go_region_held3 (fun W => W.cell? ⟨w.heap.size, 0, none⟩ = some (.int .u32 (p : Int)) ∧ W.cell? ⟨w.heap.size, 1, none⟩ = some (.slice none 0 fcap) ∧ W.cell? ⟨w.heap.size + 1, 0, none⟩ = some (.int .u32 q) ∧ W.cell? ⟨w.heap.size + 1, 1, none⟩ = some (.slice (some ⟨b', off', none⟩) gn gcap) ∧ W.cell? ⟨b', off' + (gn - 1), none⟩ = some (.int .u32 (nth gl (gn - 1) : Nat)) ∧ Boxes w W [#[.int .u32 (p : Int), .slice none 0 fcap], #[.int .u32 q, .slice (some ⟨b', off', none⟩) gn gcap]])
    (first | (exact K.out _ (by assumption)) | (exact K.out _ hbxl.drew) | fail)
    (first
      | (go_at_call 86; refine (ref_inverse p (nth gl (gn - 1)) _ hp0 hp hgm).mono ?_; rintro e w2 ⟨rfl, hw2⟩; have hx1 : Boxes w w2 [#[.int .u32 (p : Int), .slice none 0 fcap], #[.int .u32 q, .slice (some ⟨b', off', none⟩) gn gcap], #[.int .u32 0, .slice none 0 0], #[.int .u32 0, .slice none 0 0]] := (by rw [hw2]; exact hbx.drew); clear hw2; have hx1' := hx1.less 2) | fail)
  clear s1 s1' s2 s3 s4 s5
  generalize powM p (nth gl (gn - 1)) (p - 2) = inv at *
  have hf1 := hf.mono hx1.below
  have d1 : (w2.alloc (.cells #[] 22)).cell? ⟨w.heap.size, 1, none⟩ = some (.slice none 0 fcap) := (hx1.alloc_any _).cell' 0 1 _ _ rfl rfl
  have hs4 : w.heap.size + 4 ≤ w2.heap.size := by have := hx1.size; simpa using this
  have hx3 := hx1.alloc_any (.cells #[] 22)
  obtain ⟨w3, hw3⟩ : ∃ w3, w3 = w2.alloc (.cells #[] 22) := ⟨_, rfl⟩
  go_wp2
  rw [← hw3] at hx3
  rw [← hw3]
  have hr : Sl w3 (some ⟨w2.heap.size, 0, none⟩) 0 0 [] := Sl.of_nil _ _ _ (by omega)
  have hrown : (0 = 0 ∨ ∃ g, (some ⟨w2.heap.size, 0, none⟩ : Option Addr) = some ⟨g, 0, none⟩ ∧ w2.heap.size ≤ g) := Or.inl rfl
  have hz3 : w2.heap.size ≤ w3.heap.size := by rw [hw3]; exact size_le_alloc _ _
  clear hw3 d1
  clear hrown
  have hx3' := hx3.less 2
  go_loopw [11] (fun v wr => (∃ z : Int, v = .int .i64 z ∧ z < 0) ∧ wr = w3) (fun _ _ => 0)
  case atStart => exact ⟨⟨_, rfl, by omega⟩, rfl⟩
  case round =>
    obtain ⟨⟨z, rfl, hz⟩, rfl⟩ := hrel
    have hnil : Sl wr.drew none 0 0 [] := Sl.of_nil _ _ _ (by omega)
    have hrd := hr.drew
    go_wp2
    go_region_held3 (fun W => W.cell? ⟨w.heap.size, 0, none⟩ = some (.int .u32 (p : Int)) ∧ W.cell? ⟨w.heap.size, 1, none⟩ = some (.slice none 0 fcap) ∧ W.cell? ⟨w.heap.size + 1, 0, none⟩ = some (.int .u32 q) ∧ W.cell? ⟨w.heap.size + 1, 1, none⟩ = some (.slice (some ⟨b', off', none⟩) gn gcap) ∧ W.cell? ⟨b', off' + (gn - 1), none⟩ = some (.int .u32 (nth gl (gn - 1) : Nat)) ∧ Boxes w W [#[.int .u32 (p : Int), .slice none 0 fcap], #[.int .u32 q, .slice (some ⟨b', off', none⟩) gn gcap]])
      (first | (exact K.out _ (by assumption)) | (exact K.out _ hx3'.drew) | (exact K.out _ (Boxes.setCell (Boxes.setCell hx5' (by simp; try omega) _) (by simp; try omega) _)) | (exact K.out _ (Boxes.setCell (Boxes.setCell (Boxes.setCell (Boxes.setCell hx5' (by simp; try omega) _) (by simp; try omega) _) (by simp; try omega) _) (by simp; try omega) _)) | fail)
      (first
        | (go_at_call 89; (with_reducible refine (ref_cut p none 0 0 [] wr.drew hnil).mono ?_); rintro e w4 ⟨a1, n1, cap1, rfl, hs4, hb4, hpv4⟩; have hx4 := hx3.drew.mono hb4; have hx4' := hx4.less 2; have hr4 := hrd.mono hb4)
        | (go_at_call 89; (with_reducible refine (ref_cut p (some ⟨w2.heap.size, 0, none⟩) 0 0 [] w4 hr4).mono ?_); rintro e w5 ⟨a2, n2, cap2, rfl, hs5, hb5, hpv5⟩; have hx5 := hx4.mono hb5; have hx5' := hx5.less 2; have hq5 := hs4.mono hb5; have e0 : w5.cell? ⟨w.heap.size + 1 + 1, 0, none⟩ = some (.int .u32 0) := hx5.cell' 2 0 _ _ rfl rfl; have e1 : w5.cell? ⟨w.heap.size + 1 + 1, 1, none⟩ = some (.slice none 0 0) := hx5.cell' 2 1 _ _ rfl rfl; have e2 : w5.cell? ⟨w.heap.size + 1 + 1 + 1, 0, none⟩ = some (.int .u32 0) := hx5.cell' 3 0 _ _ rfl rfl; have e3 : w5.cell? ⟨w.heap.size + 1 + 1 + 1, 1, none⟩ = some (.slice none 0 0) := hx5.cell' 3 1 _ _ rfl rfl; have f0 : w5.frozen? ⟨w.heap.size + 1 + 1, 0, none⟩ = false := hx5.frozen' 2 0 (by simp); have f1 : w5.frozen? ⟨w.heap.size + 1 + 1, 1, none⟩ = false := hx5.frozen' 2 1 (by simp); have f2 : w5.frozen? ⟨w.heap.size + 1 + 1 + 1, 0, none⟩ = false := hx5.frozen' 3 0 (by simp); have f3 : w5.frozen? ⟨w.heap.size + 1 + 1 + 1, 1, none⟩ = false := hx5.frozen' 3 1 (by simp)) | fail)
    all_goals
      go_wp2
      (try simp only [Exit.inBlock, Exit.then])
      refine bodyPost_ret (v := .tuple #[.agg #[.int .u32 (p : Int), .slice a1 n1 cap1], .agg #[.int .u32 (p : Int), .slice a2 n2 cap2], .int .i64 0]) (by simp [results, Tryd.results119, go_sem, e0, e1, e2, e3]) rfl ?_
      have hn1 : n1 = 0 := by have := hq5.len; simpa [trim] using this.symm
      subst hn1
      have hfl := hf.len
      have hz4 := hx4.size
      simp at hz4
      have hof : Off a2 n2 (w.heap.size + 1 + 1) := own_off hpv5 (Or.inl rfl : (0 : Nat) = 0 ∨ ∃ g, (some ⟨w2.heap.size, 0, none⟩ : Option Addr) = some ⟨g, 0, none⟩ ∧ w2.heap.size ≤ g) hs5 (by omega) (by omega) hfl
      have hof' : Off a2 n2 (w.heap.size + 1 + 1 + 1) := own_off hpv5 (Or.inl rfl : (0 : Nat) = 0 ∨ ∃ g, (some ⟨w2.heap.size, 0, none⟩ : Option Addr) = some ⟨g, 0, none⟩ ∧ w2.heap.size ≤ g) hs5 (by omega) (by omega) hfl
      have hbz : Below w.heap.size w w5 := hx5.below
      refine ⟨_, _, _, _, _, _, rfl, (((hq5.setCell (Or.inl rfl) _).setCell (Or.inl rfl) _).setCell (Or.inl rfl) _).setCell (Or.inl rfl) _, ?_, ?_, Prov.empty, own_prov hpv5 (Or.inl rfl : (0 : Nat) = 0 ∨ ∃ g, (some ⟨w2.heap.size, 0, none⟩ : Option Addr) = some ⟨g, 0, none⟩ ∧ w2.heap.size ≤ g) hs5 (by omega) (by omega) hfl⟩
      · first
          | exact (((hs5.setCell hof _).setCell hof _).setCell hof' _).setCell hof' _
          | exact (((hs5.setCell hof' _).setCell hof' _).setCell hof _).setCell hof _
      · exact (((hbz.setCell (by simp; try omega) _).setCell (by simp; try omega) _).setCell (by simp; try omega) _).setCell (by simp; try omega) _
end Go.Proofs.YtbnjmeeaaieicaaDoor
end
section
open Alg Go Go.RowKit
namespace Alg
theorem subM_ref {p a b : Nat} (hb : b < p) : ((a : Int) + p - b).tmod (p : Int) = (subM p a b : Int) := by
  have e : (a : Int) + p - b = ((a + p - b : Nat) : Int) := by omega
  rw [e, Int.tmod_eq_emod_of_nonneg (by omega)]
  unfold subM addM negM
  by_cases h : b = 0
  · subst h; rw [if_pos rfl, Nat.sub_zero, Nat.add_zero]; simp
  · rw [if_neg h, show a + p - b = a + (p - b) by omega]; rfl
theorem Gr.shape1 {w : World} {e : TypeId} {B : Nat} {v : Value} {n : Nat} {l : List Nat} (h : Gr w e B v n l) (h0 : 0 < n) :
    ∃ g cap, v = .slice (some ⟨g, 0, none⟩) n cap ∧ B ≤ g ∧ g < w.heap.size ∧ n ≤ cap ∧ cap ≤ maxLen := by
  rcases h.shape with ⟨_, h1⟩ | h1
  · omega
  · exact h1
end Alg
namespace Go.Proofs.YtbnjmeeaaieicaaDoor
open Go.RowKit
set_option maxRecDepth 100000 in
set_option maxHeartbeats 4000000 in
theorem ref_DivMore1 (p : Nat) (x : Addr) (fn fcap : Nat) (fl : List Nat) (ga : Option Addr) (gn gcap : Nat) (gl : List Nat) (q : Int) (w : World) (hf : Sl w (some x) fn fcap fl) (hg : Sl w ga gn gcap gl)
    (hg0 : 0 < gn) (m : Nat) (hm : m + gn = fn + 1) (hm0 : 0 < m) (hp0 : 1 < p) (hp : p < 4294967296) (hfn : fn ≤ 1099511627776) (hgn : gn ≤ 1099511627776) :
    Calls Tryd.prog 119 #[.agg #[.int .u32 p, .slice (some x) fn fcap], .agg #[.int .u32 q, .slice ga gn gcap]] w (RetD p (stepsD p (powM p (nth gl (gn - 1)) (p - 2)) gl m fl m) w) := by
  obtain ⟨i0, hi, hz0, hz1, hz2⟩ := info_parts Tryd.infoU15
  have hL : (fn : Int) - (gn : Int) + 1 = (m : Int) := by omega
  have HL := Alg.hid hL
  clear hL
  rcases hg.rd with h0 | ⟨b', off', rfl, hcg⟩
  · omega
  have HG := Alg.hid hcg
  clear hcg
  have hbx := boxes4 w #[.int .u32 (p : Int), .slice (some x) fn fcap] #[.int .u32 q, .slice (some ⟨b', off', none⟩) gn gcap] #[.int .u32 0, .slice none 0 0] #[.int .u32 0, .slice none 0 0] 47 47 47 47
  have hbxl := hbx.less 2
  have hgb : ((gn : Int) == 0) = false := by simp; omega
  have hgm := hg.lt (gn - 1)
  have K : Hid (∀ W, Boxes w W [#[.int .u32 (p : Int), .slice (some x) fn fcap], #[.int .u32 q, .slice (some ⟨b', off', none⟩) gn gcap]] → W.cell? ⟨w.heap.size, 0, none⟩ = some (.int .u32 (p : Int)) ∧ W.cell? ⟨w.heap.size, 1, none⟩ = some (.slice (some x) fn fcap) ∧ W.cell? ⟨w.heap.size + 1, 0, none⟩ = some (.int .u32 q) ∧ W.cell? ⟨w.heap.size + 1, 1, none⟩ = some (.slice (some ⟨b', off', none⟩) gn gcap) ∧ W.cell? ⟨b', off' + (gn - 1), none⟩ = some (.int .u32 (nth gl (gn - 1) : Nat)) ∧ Boxes w W [#[.int .u32 (p : Int), .slice (some x) fn fcap], #[.int .u32 q, .slice (some ⟨b', off', none⟩) gn gcap]]) :=
    fun W h => ⟨h.cell' 0 0 _ _ rfl rfl, h.cell' 0 1 _ _ rfl rfl, h.cell' 1 0 _ _ rfl rfl, h.cell' 1 1 _ _ rfl rfl, (h.below.cell (p := ⟨b', off' + (gn - 1), none⟩) (cell_lt (HG.out (gn - 1) (by omega)))).trans (HG.out (gn - 1) (by omega)), h⟩
  have hinv : powM p (nth gl (gn - 1)) (p - 2) < p := powM_lt _ _ _ (by omega)
  have s1 : (0 : Int) ≤ (gn : Int) - 1 := by omega
  have s1' : (1 : Int) ≤ (gn : Int) := by omega
  have s2 : (gn : Int) - 1 < gn := by omega
  have s3 : ((gn : Int) - 1).toNat = gn - 1 := by omega
  have s4 : IntKind.i64.wrap ((gn : Int) - 1) = (gn : Int) - 1 := IntWalk.i64_in _ (by omega)
  have s5 : IntKind.u64.wrap (powM p (nth gl (gn - 1)) (p - 2) : Int) = (powM p (nth gl (gn - 1)) (p - 2) : Int) := IntWalk.u64_in _ (by omega)
  go_enter Tryd.func119, Tryd.ntmps119
  go_wp2
  go_region_held3 (fun W => W.cell? ⟨w.heap.size, 0, none⟩ = some (.int .u32 (p : Int)) ∧ W.cell? ⟨w.heap.size, 1, none⟩ = some (.slice (some x) fn fcap) ∧ W.cell? ⟨w.heap.size + 1, 0, none⟩ = some (.int .u32 q) ∧ W.cell? ⟨w.heap.size + 1, 1, none⟩ = some (.slice (some ⟨b', off', none⟩) gn gcap) ∧ W.cell? ⟨b', off' + (gn - 1), none⟩ = some (.int .u32 (nth gl (gn - 1) : Nat)) ∧ Boxes w W [#[.int .u32 (p : Int), .slice (some x) fn fcap], #[.int .u32 q, .slice (some ⟨b', off', none⟩) gn gcap]])
    (first | (exact K.out _ (by assumption)) | (exact K.out _ hbxl.drew) | fail)
    (first
      | (go_at_call 86; refine (ref_inverse p (nth gl (gn - 1)) _ hp0 hp hgm).mono ?_; rintro e w2 ⟨rfl, hw2⟩; have hx1 : Boxes w w2 [#[.int .u32 (p : Int), .slice (some x) fn fcap], #[.int .u32 q, .slice (some ⟨b', off', none⟩) gn gcap], #[.int .u32 0, .slice none 0 0], #[.int .u32 0, .slice none 0 0]] := (by rw [hw2]; exact hbx.drew); clear hw2; have hx1' := hx1.less 2) | fail)
  clear s1 s1' s2 s3 s4 s5
  generalize powM p (nth gl (gn - 1)) (p - 2) = inv at *
  have hf1 := hf.mono hx1.below
  have d1 : (w2.alloc (.cells #[] 22)).cell? ⟨w.heap.size, 1, none⟩ = some (.slice (some x) fn fcap) := (hx1.alloc_any _).cell' 0 1 _ _ rfl rfl
  have hs4 : w.heap.size + 4 ≤ w2.heap.size := by have := hx1.size; simpa using this
  have HN := Alg.hid (Sl.news (hf1.mono ((Below.refl w2.heap.size w2).alloc (Nat.le_refl _) (.cells #[] 22))))
  have HO := Alg.hid (own_fresh w2 22)
  have H1 := Alg.hid (vals_one fl)
  have HV : Hid ((vals fl).length = fn * 1) := Alg.hid (by simp [vals, hf.len])
  have q1 : 0 + fn ≤ maxLen := by unfold maxLen; omega
  have q2 : (0 + fn) * 4 ≤ 140737488355328 := by omega
  have hfn0 : 0 < fn := by omega
  go_wp2_with (first
    | (at_builtin; refine wpList_append_own _ rfl _ _ 23 rfl w2.heap.size 22 i0 (.int .u32 0) 1 4 Tryd.underlying23 hi hz0 hz1 hz2 rfl Nat.one_pos _ 0 [] rfl HO.out x fn fcap (vals fl) rfl HV.out HN.out H1.out q1 q2 (size_le_alloc _ _) ?_; intro v' w3 hown1 hgrow _; have hb3 : Below w2.heap.size w2 w3 := ((Below.refl w2.heap.size w2).alloc (Nat.le_refl _) _).grown hgrow (by simp) (own_row_le _); have hx3 := hx1.mono hb3; have dd1 : w3.cell? ⟨w.heap.size, 1, none⟩ = some (.slice (some x) fn fcap) := hx3.cell' 0 1 _ _ rfl rfl; have hgr0 : Gr w3 22 w2.heap.size v' fn fl := ⟨(by simpa using hown1), hf.lt⟩; obtain ⟨rg, rcap, rfl, hrg, hrg2, _, hrc⟩ := hgr0.shape1 hfn0; have HR0 := Alg.hid hgr0.arr; clear hgr0 hown1 hgrow; have hrg4 : w.heap.size + 4 ≤ rg := (by omega); have hrne : rg ≠ w3.heap.size := (by omega); have hqg4 : w.heap.size + 4 ≤ w3.heap.size := (by omega))
    | (at_make; refine wpList_make_full _ rfl _ _ 23 rfl w.heap.size 22 i0 (.int .u32 0) 1 Tryd.underlying23 hi hz0 hz1 .i64 .i64 _ _ m rfl rfl HL.out HL.out (by rw [hz2]; omega) (by unfold maxLen; omega) (by omega) ?_; rw [madeCells_u32]; intro w4 hown hgr; have hx4 := hx3.mono (below_grown hgr); have hR := HR0.out.mono (below_grown hgr); clear hgr; have hA : Arr w4 22 w.heap.size w3.heap.size m m (List.replicate m 0) := ⟨hown, fun i => by rw [← upto_zero (fun _ => 0) m, nth_upto]; split <;> decide⟩; clear hown; have d4 : w4.cell? ⟨w.heap.size, 1, none⟩ = some (.slice (some x) fn fcap) := hx4.cell' 0 1 _ _ rfl rfl)
    | fail)
  clear HN HO H1 HV d1 dd1
  go_loopw [11] (fun v wr => ∃ j, j ≤ m ∧ ((∃ k : Nat, v = .int .i64 k ∧ k + 1 + j = m) ∨ (v = .int .i64 (-1) ∧ j = m)) ∧ Arr wr 22 w2.heap.size rg fn rcap (stepsD p inv gl m fl j).2 ∧ Arr wr 22 w.heap.size w3.heap.size m m (stepsD p inv gl m fl j).1 ∧ Boxes w wr [#[.int .u32 (p : Int), .slice (some x) fn fcap], #[.int .u32 q, .slice (some ⟨b', off', none⟩) gn gcap], #[.int .u32 0, .slice none 0 0], #[.int .u32 0, .slice none 0 0]]) (fun v _ => (intOf v + 1).toNat)
  case atStart => exact ⟨0, Nat.zero_le _, Or.inl ⟨m - 1, by congr 1; omega, by omega⟩, hR, hA, hx4⟩
  case round =>
    clear hA hR hx4 d4
    obtain ⟨j, hj, hv, hR, hQ, hx⟩ := hrel
    obtain ⟨Q, R, hS⟩ : ∃ Q R, stepsD p inv gl m fl j = (Q, R) := ⟨_, _, rfl⟩
    rw [hS] at hR hQ
    simp only at hR hQ
    obtain ⟨wo, rfl⟩ : ∃ wo : World, wo = wr := ⟨_, rfl⟩
    have d0 : wo.cell? ⟨w.heap.size, 0, none⟩ = some (.int .u32 (p : Int)) := hx.cell' 0 0 _ _ rfl rfl
    have p1 : IntKind.u64.wrap (p : Int) = (p : Int) := IntWalk.u64_in _ (by omega)
    have p2 : ((p : Int) == 0) = false := by simp; omega
    have p3 : ¬ p = 0 := by omega
    rcases hv with ⟨k, rfl, hkj⟩ | ⟨rfl, rfl⟩
    · have hkf : k + gn - 1 < fn := by omega
      have cR := hR.cell hkf
      have lR := hR.lt (k + gn - 1)
      have hkm : k < m := by omega
      have cQ := hQ.cell hkm
      have fQ := hQ.frozen k
      have s1 : (0 : Int) ≤ (k : Int) + gn - 1 := by omega
      have s2 : (k : Int) + gn - 1 < fn := by omega
      have s3 : ((k : Int) + gn - 1).toNat = k + gn - 1 := by omega
      have s4 : IntKind.i64.wrap ((k : Int) + gn) = (k : Int) + gn := IntWalk.i64_in _ (by omega)
      have s5 : IntKind.i64.wrap ((k : Int) + gn - 1) = (k : Int) + gn - 1 := IntWalk.i64_in _ (by omega)
      have hinv' : inv < 4294967296 := by omega
      obtain ⟨b1, b2⟩ := cMul_le lR hinv'
      have hcp : mulM p (nth R (k + gn - 1)) inv < p := mulM_lt _ _ _ (by omega)
      have m1 : IntKind.u64.wrap (nth R (k + gn - 1) : Int) = (nth R (k + gn - 1) : Int) := IntWalk.u64_in _ (by omega)
      have m2 : IntKind.u64.wrap ((nth R (k + gn - 1) : Int) * (inv : Int)) = (nth R (k + gn - 1) : Int) * (inv : Int) := IntWalk.u64_in _ (by omega)
      have m3 : ((nth R (k + gn - 1) : Int) * (inv : Int)).tmod (p : Int) = (mulM p (nth R (k + gn - 1)) inv : Int) := by rw [Int.tmod_eq_emod_of_nonneg b2, mulM_cast]
      have m4 : IntKind.u64.wrap (mulM p (nth R (k + gn - 1)) inv : Int) = (mulM p (nth R (k + gn - 1)) inv : Int) := IntWalk.u64_in _ (by omega)
      have m5 : IntKind.u32.wrap (mulM p (nth R (k + gn - 1)) inv : Int) = (mulM p (nth R (k + gn - 1)) inv : Int) := IntWalk.u32_in _ (by omega)
      have HR := Alg.hid hR
      have HQ := Alg.hid hQ
      clear hR hQ
      go_wp2
      go_quiet (fail)
      clear s1 s2 s3 s4 s5 m1 m2 m3 m4 b1 b2
      have hx' := (hx.drewN nq).setCell (i := k) (u := .int .u32 (mulM p (nth R (k + gn - 1)) inv : Nat)) (g := w3.heap.size) (by simpa using hqg4)
      have d2 := hx'.cell' 1 1 _ _ rfl rfl
      generalize hc : mulM p (nth R (k + gn - 1)) inv = c at *
      have HC := Alg.hid hc
      clear hc
      have HQ' : Hid (Arr ((wo.drewN nq).setCell ⟨w3.heap.size, k, none⟩ (.int .u32 (c : Nat))) 22 w.heap.size w3.heap.size m m (Q.set k c)) := (HQ.out.mono (Alg.below_drewN wo nq)).set k c (by omega)
      have HR' : Hid (Arr ((wo.drewN nq).setCell ⟨w3.heap.size, k, none⟩ (.int .u32 (c : Nat))) 22 w2.heap.size rg fn rcap R) := (HR.out.mono (Alg.below_drewN wo nq)).other k hrne _
      go_wp2
      go_loopw [13] (fun v wr => ∃ i : Nat, v = .int .i64 i ∧ i ≤ gn ∧ Arr wr 22 w2.heap.size rg fn rcap (innerD p c k gl R i) ∧ Arr wr 22 w.heap.size w3.heap.size m m (Q.set k c) ∧ Boxes w wr [#[.int .u32 (p : Int), .slice (some x) fn fcap], #[.int .u32 q, .slice (some ⟨b', off', none⟩) gn gcap], #[.int .u32 0, .slice none 0 0], #[.int .u32 0, .slice none 0 0]]) (fun v _ => gn - (intOf v).toNat)
      case atStart => exact ⟨0, rfl, Nat.zero_le _, HR'.out, HQ'.out, hx'⟩
      case round =>
        clear hx' d2 HR' HQ' HR HQ hx d0 cR lR cQ fQ m5
        obtain ⟨i, rfl, hi', hR, hQ, hx⟩ := hrel
        by_cases hin : i < gn
        · have hki : k + i < fn := by omega
          have lR := hR.lt (k + i)
          have lG := hg.lt i
          have hx0 := hx.less 2
          have hgw := (hg.mono hx.below).drew
          have HR := Alg.hid hR
          have HQ := Alg.hid hQ
          clear hR hQ
          have hc4 : c < 4294967296 := by omega
          obtain ⟨b1, b2⟩ := cMul_le hc4 lG
          have hl := mulM_lt p c (nth gl i) (by omega)
          have m1 : IntKind.u64.wrap ((c : Int) * (nth gl i : Int)) = (c : Int) * (nth gl i : Int) := IntWalk.u64_in _ (by omega)
          have m2 : ((c : Int) * (nth gl i : Int)).tmod (p : Int) = (mulM p c (nth gl i) : Int) := by rw [Int.tmod_eq_emod_of_nonneg b2, mulM_cast]
          have m3 : IntKind.u64.wrap (mulM p c (nth gl i) : Int) = (mulM p c (nth gl i) : Int) := IntWalk.u64_in _ (by omega)
          go_wp2
          go_region_held3 (fun W => W.cell? ⟨w.heap.size, 0, none⟩ = some (.int .u32 (p : Int)) ∧ W.cell? ⟨w.heap.size, 1, none⟩ = some (.slice (some x) fn fcap) ∧ W.cell? ⟨w.heap.size + 1, 0, none⟩ = some (.int .u32 q) ∧ W.cell? ⟨w.heap.size + 1, 1, none⟩ = some (.slice (some ⟨b', off', none⟩) gn gcap) ∧ W.cell? ⟨b', off' + (gn - 1), none⟩ = some (.int .u32 (nth gl (gn - 1) : Nat)) ∧ Boxes w W [#[.int .u32 (p : Int), .slice (some x) fn fcap], #[.int .u32 q, .slice (some ⟨b', off', none⟩) gn gcap]])
            (first | (exact K.out _ (by assumption)) | (exact K.out _ hx0.drew) | fail)
            (first
              | (go_at_call 88; refine (ref_at q (some ⟨b', off', none⟩) gn gcap gl i _ hgw).mono ?_; rintro e w6 ⟨rfl, hb6⟩; have hx6 := hx.drew.mono hb6; have hx6' := hx6.less 2; have HR6 := Alg.hid (HR.out.drew.mono hb6); have HQ6 := Alg.hid (HQ.out.drew.mono hb6)) | fail)
          clear m1 m2 m3 b1 b2 HR HQ
          generalize hle : mulM p c (nth gl i) = ls at *
          have HLS := Alg.hid hle
          clear hle
          have cR := HR6.out.cell hki
          have fR := HR6.out.frozen (k + i)
          have d6 : w6.cell? ⟨w.heap.size, 0, none⟩ = some (.int .u32 (p : Int)) := hx6.cell' 0 0 _ _ rfl rfl
          generalize hy : nth (innerD p c k gl R i) (k + i) = y at *
          have hsp := subM_lt p y ls (by omega)
          have s1 : (0 : Int) ≤ (k : Int) + i := by omega
          have s2 : (k : Int) + i < fn := by omega
          have s3 : ((k : Int) + i).toNat = k + i := by omega
          have s4 : IntKind.i64.wrap ((k : Int) + i) = (k : Int) + i := IntWalk.i64_in _ (by omega)
          have t1 : IntKind.u64.wrap (y : Int) = (y : Int) := IntWalk.u64_in _ (by omega)
          have t2 : IntKind.u64.wrap ((y : Int) + p) = (y : Int) + p := IntWalk.u64_in _ (by omega)
          have t3 : IntKind.u64.wrap ((y : Int) + p - ls) = (y : Int) + p - ls := IntWalk.u64_in _ (by omega)
          have t4 : ((y : Int) + p - ls).tmod (p : Int) = (subM p y ls : Int) := subM_ref hl
          have t5 : IntKind.u64.wrap (subM p y ls : Int) = (subM p y ls : Int) := IntWalk.u64_in _ (by omega)
          have t6 : IntKind.u32.wrap (subM p y ls : Int) = (subM p y ls : Int) := IntWalk.u32_in _ (by omega)
          have HY := Alg.hid hy
          clear hy
          go_wp2
          go_still_tail 23, (by kernel_rfl)
          repeat still_step
          try refine wpStill_nil ?_
          clear s4 s3 t1 t2 t3 t4 t5 t6
          change wpList _ _ _ _ _ w6.drew
          go_wp2
          go_roundw
          case rel =>
            refine ⟨i + 1, by go_num, by omega, ?_, (HQ6.out.other (k + i) hrne.symm _).drew, (hx6.setCell (by simpa using hrg4) _).drew⟩
            show Arr _ _ _ _ _ _ ((innerD p c k gl R i).set (k + i) (subM p (nth (innerD p c k gl R i) (k + i)) (mulM p c (nth gl i))))
            rw [HY.out, HLS.out]
            exact (HR6.out.set (k + i) _ (by omega)).drew
          case measure => simp [intOf]; omega
        · have ei : i = gn := by omega
          have hst := stepsD_step p inv gl m fl j k gn Q R hS hkj hg.len
          rw [HC.out, ← ei] at hst
          have HR := Alg.hid hR
          have HQ := Alg.hid hQ
          have HS := Alg.hid hst
          clear hst ei hR hQ
          go_wp2
          go_roundw
          case rel =>
            refine ⟨j + 1, by omega, ?_, by rw [HS.out]; exact HR.out, by rw [HS.out]; exact HQ.out, hx⟩
            by_cases k0 : k = 0
            · exact Or.inr ⟨by subst k0; rfl, by omega⟩
            · exact Or.inl ⟨k - 1, by congr 1; omega, by omega⟩
          case measure => simp [intOf]
    · have hRs := hR.sl hrc
      have hQs := hQ.sl (by omega)
      have hlR := hR.len
      have hlQ := hQ.len
      have hx0 := hx.less 2
      have HRs := Alg.hid hRs
      have HQs := Alg.hid hQs
      have hRd := hRs.drew
      have hQd := hQs.drew
      clear hR hQ hRs hQs
      have hz := hx.size
      go_wp2
      go_region_held3 (fun W => W.cell? ⟨w.heap.size, 0, none⟩ = some (.int .u32 (p : Int)) ∧ W.cell? ⟨w.heap.size, 1, none⟩ = some (.slice (some x) fn fcap) ∧ W.cell? ⟨w.heap.size + 1, 0, none⟩ = some (.int .u32 q) ∧ W.cell? ⟨w.heap.size + 1, 1, none⟩ = some (.slice (some ⟨b', off', none⟩) gn gcap) ∧ W.cell? ⟨b', off' + (gn - 1), none⟩ = some (.int .u32 (nth gl (gn - 1) : Nat)) ∧ Boxes w W [#[.int .u32 (p : Int), .slice (some x) fn fcap], #[.int .u32 q, .slice (some ⟨b', off', none⟩) gn gcap]])
        (first | (exact K.out _ (by assumption)) | (exact K.out _ hx0.drew) | (exact K.out _ (Boxes.setCell (Boxes.setCell hx5' (by simp; try omega) _) (by simp; try omega) _)) | (exact K.out _ (Boxes.setCell (Boxes.setCell (Boxes.setCell (Boxes.setCell hx5' (by simp; try omega) _) (by simp; try omega) _) (by simp; try omega) _) (by simp; try omega) _)) | fail)
        (first
          | (go_at_call 89; (with_reducible refine (ref_cut p _ j j Q wo.drew hQd).mono ?_); rintro e w4 ⟨a1, n1, cap1, rfl, hs4', hb4, hpv4⟩; have hx4 := hx.drew.mono hb4; have hx4' := hx4.less 2; have hr4 := hRd.mono hb4)
          | (go_at_call 89; (with_reducible refine (ref_cut p _ fn rcap R w4 hr4).mono ?_); rintro e w5 ⟨a2, n2, cap2, rfl, hs5, hb5, hpv5⟩; have hx5 := hx4.mono hb5; have hx5' := hx5.less 2; have hq5 := hs4'.mono hb5; have e0 : w5.cell? ⟨w.heap.size + 1 + 1, 0, none⟩ = some (.int .u32 0) := hx5.cell' 2 0 _ _ rfl rfl; have e1 : w5.cell? ⟨w.heap.size + 1 + 1, 1, none⟩ = some (.slice none 0 0) := hx5.cell' 2 1 _ _ rfl rfl; have e2 : w5.cell? ⟨w.heap.size + 1 + 1 + 1, 0, none⟩ = some (.int .u32 0) := hx5.cell' 3 0 _ _ rfl rfl; have e3 : w5.cell? ⟨w.heap.size + 1 + 1 + 1, 1, none⟩ = some (.slice none 0 0) := hx5.cell' 3 1 _ _ rfl rfl; have f0 : w5.frozen? ⟨w.heap.size + 1 + 1, 0, none⟩ = false := hx5.frozen' 2 0 (by simp); have f1 : w5.frozen? ⟨w.heap.size + 1 + 1, 1, none⟩ = false := hx5.frozen' 2 1 (by simp); have f2 : w5.frozen? ⟨w.heap.size + 1 + 1 + 1, 0, none⟩ = false := hx5.frozen' 3 0 (by simp); have f3 : w5.frozen? ⟨w.heap.size + 1 + 1 + 1, 1, none⟩ = false := hx5.frozen' 3 1 (by simp)) | fail)
      all_goals
        go_wp2
        (try simp only [Exit.inBlock, Exit.then])
        refine bodyPost_ret (v := .tuple #[.agg #[.int .u32 (p : Int), .slice a1 n1 cap1], .agg #[.int .u32 (p : Int), .slice a2 n2 cap2], .int .i64 0]) (by simp [results, Tryd.results119, go_sem, e0, e1, e2, e3]) rfl ?_
        have hz4 := hx4.size
        simp at hz hz4
        have hz0' : wo.drew.heap.size = wo.heap.size := rfl
        have hofq : Off a1 n1 (w.heap.size + 1 + 1) := hpv4.offb (by omega) (by omega)
        have hofq' : Off a1 n1 (w.heap.size + 1 + 1 + 1) := hpv4.offb (by omega) (by omega)
        have hof : Off a2 n2 (w.heap.size + 1 + 1) := hpv5.offb (by omega) (by omega)
        have hof' : Off a2 n2 (w.heap.size + 1 + 1 + 1) := hpv5.offb (by omega) (by omega)
        have hbz : Below w.heap.size w w5 := hx5.below
        rw [hS]
        refine ⟨_, _, _, _, _, _, rfl, ?_, ?_, ?_, hpv4.new (by omega) (by omega), hpv5.new (by omega) (by omega)⟩
        · first
            | exact (((hq5.setCell hofq _).setCell hofq _).setCell hofq' _).setCell hofq' _
            | exact (((hq5.setCell hofq' _).setCell hofq' _).setCell hofq _).setCell hofq _
        · first
            | exact (((hs5.setCell hof _).setCell hof _).setCell hof' _).setCell hof' _
            | exact (((hs5.setCell hof' _).setCell hof' _).setCell hof _).setCell hof _
        · exact (((hbz.setCell (by simp; try omega) _).setCell (by simp; try omega) _).setCell (by simp; try omega) _).setCell (by simp; try omega) _
end Go.Proofs.YtbnjmeeaaieicaaDoor
end
section
open Alg Go Go.RowKit
namespace Go.Proofs.YtbnjmeeaaieicaaDoor
open Go.RowKit
theorem ref_DivMod (p : Nat) (fa : Option Addr) (fn fcap : Nat) (fl : List Nat) (ga : Option Addr) (gn gcap : Nat) (gl : List Nat) (q : Int) (w : World) (hf : Sl w fa fn fcap fl) (hg : Sl w ga gn gcap gl)
    (hg0 : 0 < gn) (hp0 : 1 < p) (hp : p < 4294967296) (hfn : fn ≤ 1099511627776) (hgn : gn ≤ 1099511627776) :
    Calls Tryd.prog 119 #[.agg #[.int .u32 p, .slice fa fn fcap], .agg #[.int .u32 q, .slice ga gn gcap]] w (RetD p (divL p fl gl) w) := by
  unfold divL divN
  rw [hf.len, hg.len]
  cases fa with
  | none =>
    have h0 : fn = 0 := by
      rcases hf.rd with h | ⟨b, o, h, _⟩
      · exact h
      · cases h
    subst h0
    have hl : fl = [] := List.length_eq_zero_iff.1 hf.len
    subst hl
    rw [show 0 + 1 - gn = 0 by omega]
    exact ref_DivLess0 p fcap ga gn gcap gl q w hf hg hg0 hp0 hp hgn
  | some x =>
    by_cases h : fn < gn
    · rw [show fn + 1 - gn = 0 by omega]
      exact ref_DivLess1 p x fn fcap fl ga gn gcap gl q w hf hg hg0 h hp0 hp hfn hgn
    · exact ref_DivMore1 p x fn fcap fl ga gn gcap gl q w hf hg hg0 (fn + 1 - gn) (by omega) (by omega) hp0 hp hfn hgn
theorem Equal0 (a : Option Addr) (n cap : Nat) (l : List Nat) (a' : Option Addr) (cap' : Nat) (l' : List Nat) (w : World) (h : Sl w a n cap l) (h' : Sl w a' n cap' l') (hn : n ≤ 1099511627776) (j : Nat) (bv : Bool) (hj : j ≤ n)
    (hall : ∀ i, i < j → nth l i = nth l' i) (hend : (j = n ∧ bv = true) ∨ (j < n ∧ nth l j ≠ nth l' j ∧ bv = false)) :
    Calls Tryd.prog 136 #[.slice a n cap, .slice a' n cap'] w fun e w' => e = .returned (.bool bv) ∧ Below w.heap.size w w' := by
  have HA := Alg.hid hall
  have HE := Alg.hid hend
  clear hall hend
  go_enter Tryd.func136, Tryd.ntmps136
  go_wp2
  go_loopw [13] (fun i wr => ∃ k : Nat, i = .int .i64 k ∧ k ≤ j ∧ Below w.heap.size w wr) (fun i _ => n - (intOf i).toNat)
  case atStart => exact ⟨0, rfl, Nat.zero_le _, Below.refl _ _⟩
  case round =>
    obtain ⟨k, rfl, hk, hb⟩ := hrel
    by_cases hkn : k < n
    · rcases h.rd with h0 | ⟨b, off, rfl, hc⟩
      · omega
      rcases h'.rd with h0 | ⟨b', off', rfl, hc'⟩
      · omega
      have c1 : wr.cell? ⟨b, off + k, none⟩ = some (.int .u32 (nth l k : Nat)) := (hb.cell (p := ⟨b, off + k, none⟩) (cell_lt (hc k hkn))).trans (hc k hkn)
      have c2 : wr.cell? ⟨b', off' + k, none⟩ = some (.int .u32 (nth l' k : Nat)) := (hb.cell (p := ⟨b', off' + k, none⟩) (cell_lt (hc' k hkn))).trans (hc' k hkn)
      clear hc hc'
      have s1 : (0 : Int) ≤ (k : Int) := by omega
      have s2 : (k : Int) < (n : Int) := by omega
      by_cases ek : k = j
      · subst ek
        rcases HE.out with ⟨h1, _⟩ | ⟨_, h1, h2⟩
        · omega
        · have s3 : ((nth l k : Int) != (nth l' k : Int)) = true := by simp; omega
          have HB := Alg.hid h2
          clear h1 h2
          go_wp2
          go_quiet (fail)
          go_wp2
          go_ret
          exact ⟨by rw [HB.out]; rfl, by first | exact hb | exact hb.trans ((Alg.below_drewN _ _).mono hb.size)⟩
      · have s3 : ((nth l k : Int) != (nth l' k : Int)) = false := by simp; have := HA.out k (by omega); omega
        go_wp2
        go_quiet (fail)
        go_wp2
        go_roundw
        case rel => exact ⟨k + 1, by go_num, by omega, by first | exact hb | exact hb.trans ((Alg.below_drewN _ _).mono hb.size)⟩
        case measure => simp [intOf]; omega
    · rcases HE.out with ⟨_, h1⟩ | ⟨h1, _⟩
      · have HB := Alg.hid h1
        clear h1
        go_wp2
        go_ret
        exact ⟨by rw [HB.out]; rfl, hb⟩
      · omega
theorem slices_Equal (a : Option Addr) (n cap : Nat) (l : List Nat) (a' : Option Addr) (n' cap' : Nat) (l' : List Nat) (w : World) (h : Sl w a n cap l) (h' : Sl w a' n' cap' l') (hn : n ≤ 1099511627776) :
    Calls Tryd.prog 136 #[.slice a n cap, .slice a' n' cap'] w fun e w' => e = .returned (.bool (decide (l = l'))) ∧ Below w.heap.size w w' := by
  have hp : ∀ p : Nat, decide (l = l') = sameB p l p l' := fun p => by simp [sameB]
  by_cases e2 : n = n'
  · subst e2
    rcases least (fun i => nth l i = nth l' i) n with hall | ⟨j, h1, h2, h3⟩
    · exact Equal0 a n cap l a' cap' l' w h h' hn n _ (Nat.le_refl _) hall (Or.inl ⟨rfl, (hp 0).trans (sameB_all h.len h'.len hall)⟩)
    · exact Equal0 a n cap l a' cap' l' w h h' hn j _ (by omega) h3 (Or.inr ⟨h1, h2, (hp 0).trans (sameB_at j h2)⟩)
  · have HB : Hid (decide (l = l') = false) := (hp 0).trans (sameB_len (by rw [h.len, h'.len]; exact e2))
    have s1 : ((n : Int) != (n' : Int)) = true := by simp; omega
    clear e2 hp
    go_enter Tryd.func136, Tryd.ntmps136
    go_wp2
    go_ret
    exact ⟨by rw [HB.out]; rfl, Below.refl _ _⟩
theorem ppoly_Same (p : Nat) (a : Option Addr) (n cap : Nat) (l : List Nat) (q : Nat) (a' : Option Addr) (n' cap' : Nat) (l' : List Nat) (w : World) (h : Sl w a n cap l) (h' : Sl w a' n' cap' l') (hn : n ≤ 1099511627776) :
    Calls Tryd.prog 117 #[.agg #[.int .u32 p, .slice a n cap], .agg #[.int .u32 q, .slice a' n' cap']] w fun e w' => e = .returned (.bool (sameB p l q l')) ∧ Below w.heap.size w w' := by
  have hbx := boxes2 w #[.int .u32 (p : Int), .slice a n cap] #[.int .u32 (q : Int), .slice a' n' cap'] 47 47
  have hb0 := hbx.below
  have hs1 := hb0.size
  have h1 := h.mono hb0
  have h1' := h'.mono hb0
  by_cases e : p = q
  · subst e
    have HB : Hid (sameB p l p l' = decide (l = l')) := by simp [sameB, Hid]
    go_enter Tryd.func117, Tryd.ntmps117
    go_wp2_with fail
    refine (slices_Equal a n cap l a' n' cap' l' _ h1 h1' hn).mono ?_
    rintro e w' ⟨rfl, hb2⟩
    go_wp2
    go_ret
    exact ⟨by rw [HB.out]; rfl, hb0.trans (hb2.mono hs1)⟩
  · have HB : Hid (sameB p l q l' = false) := sameB_ne e
    have e' : ((p : Int) == (q : Int)) = false := by simp; omega
    clear e
    go_enter Tryd.func117, Tryd.ntmps117
    go_wp2
    go_ret
    exact ⟨by rw [HB.out]; rfl, hb0⟩
end Go.Proofs.YtbnjmeeaaieicaaDoor
end
section
open Alg Go Go.RowKit
namespace Alg
theorem pairB_true {p : Nat} {l : List Nat} {q : Nat} {l' : List Nat} {m : Nat} (h : pairB p l q l' m = true) :
    p = q ∧ l.length ≤ m + 1 ∧ l'.length ≤ m + 1 ∧ Canon p l ∧ Canon p l' ∧ IsPr p ∧ p < 2147483648 := by
  simp only [pairB, fairB, Bool.and_eq_true, decide_eq_true_eq, rightB_true] at h
  obtain ⟨⟨rfl, h1, h2, h3, h4⟩, h5, h6, _, _⟩ := h
  exact ⟨rfl, h1, h5, h2, h6, h3, h4⟩
/-- the call hands back two polynomials and a number -/
def RetX (P E : Nat) (Lq Lr : List Nat) (w : World) (e : Ending) (w' : World) : Prop :=
  ∃ a n cap b m cap', e = .returned (.tuple #[.agg #[.int .u32 (P : Nat), .slice a n cap], .agg #[.int .u32 (P : Nat), .slice b m cap'], .int .i64 (E : Nat)]) ∧ Sl w' a n cap Lq ∧ Sl w' b m cap' Lr ∧ Below w.heap.size w w'
theorem RetD.x {p : Nat} {L : List Nat × List Nat} {w w' : World} {e : Ending} (h : RetD p L w e w') : RetX p 0 (trim L.1) (trim L.2) w e w' := by
  obtain ⟨a, n, cap, b, m, cap', h1, h2, h3, h4, _, _⟩ := h
  exact ⟨a, n, cap, b, m, cap', h1, h2, h3, h4⟩
theorem Boxes.at0 {w W : World} {L : List (Array Value)} (h : Boxes w W L) {x y : Value} (hj : L[0]? = some #[x, y]) : W.cell? ⟨w.heap.size, 0, none⟩ = some x ∧ W.cell? ⟨w.heap.size, 1, none⟩ = some y :=
  ⟨h.cell' 0 0 _ _ hj rfl, h.cell' 0 1 _ _ hj rfl⟩
theorem Boxes.at1 {w W : World} {L : List (Array Value)} (h : Boxes w W L) {x y : Value} (hj : L[1]? = some #[x, y]) : W.cell? ⟨w.heap.size + 1, 0, none⟩ = some x ∧ W.cell? ⟨w.heap.size + 1, 1, none⟩ = some y :=
  ⟨h.cell' 1 0 _ _ hj rfl, h.cell' 1 1 _ _ hj rfl⟩
theorem mulL_len (p : Nat) (f g : List Nat) : (mulL p f g).length ≤ f.length + g.length := by
  unfold mulL
  split
  · exact Nat.zero_le _
  · refine Nat.le_trans (trim_len _) ?_
    rw [outerM_len]; omega
theorem add_bound {F : Nat → Nat} {a b n N : Nat} (h : (trim ((List.range (max a b)).map F)).length = n) (ha : a ≤ N) (hb : b ≤ N) : n ≤ N := by
  have := trim_len ((List.range (max a b)).map F)
  simp only [List.length_map, List.length_range] at this
  omega
theorem nth_ge {l : List Nat} {i : Nat} (h : l.length ≤ i) : nth l i = 0 := getD_ge h
theorem addL_ok {p : Nat} [NeZero p] (f g : List Nat) (n : Nat) (hf : f.length ≤ n) (hg : g.length ≤ n) :
    pol p (trim ((List.range n).map fun i => addM p (nth f i) (nth g i))) = pol p f + pol p g ∧ Canon p (trim ((List.range n).map fun i => addM p (nth f i) (nth g i))) := by
  constructor
  · rw [pol_trim]
    refine Poly.ext fun i => ?_
    rw [pol_ofFn, Poly.c_add, pol_c, pol_c]
    split
    · exact of_addM _ _
    · have h1 : f.getD i 0 = 0 := getD_ge (by omega)
      have h2 : g.getD i 0 = 0 := getD_ge (by omega)
      rw [h1, h2, Fp.of_zero, CR.add_zero]
  · refine Canon.trim fun c hc => ?_
    obtain ⟨i, _, rfl⟩ := List.mem_map.1 hc
    exact addM_lt _ _ _ (Nat.pos_of_ne_zero (NeZero.ne p))
end Alg
namespace Go.Proofs.YtbnjmeeaaieicaaDoor
open Go.RowKit
/-- what 'awake' answers -/
def Awake : Prop := ∀ w : World, Calls Tryd.prog 38 #[] w fun e w' => e = .returned (.bool true) ∧ Below w.heap.size w w'
theorem div_both (p : Nat) (fl gl : List Nat) (hp0 : 1 < p) (hp : p < 4294967296) (lf : fl.length ≤ 1099511627776) (lg : gl.length ≤ 1099511627776) (cg : Canon p gl) :
    ∃ P E Lq Lr, (∀ fa fn fcap ga gn gcap w, Sl w fa fn fcap fl → Sl w ga gn gcap gl → Calls Tryd.prog 81 #[.agg #[.int .u32 p, .slice fa fn fcap], .agg #[.int .u32 p, .slice ga gn gcap]] w (RetX P E Lq Lr w)) ∧
      (∀ fa fn fcap ga gn gcap w, Sl w fa fn fcap fl → Sl w ga gn gcap gl → Calls Tryd.prog 119 #[.agg #[.int .u32 p, .slice fa fn fcap], .agg #[.int .u32 p, .slice ga gn gcap]] w (RetX P E Lq Lr w)) ∧
      (P < 4294967296) ∧ (Lq.length ≤ fl.length + 1 ∧ Lr.length ≤ fl.length) ∧ ((E = 3 ∧ gl = []) ∨ (E = 0 ∧ p = P ∧ gl ≠ [] ∧ Lq = trim (divL p fl gl).1 ∧ Lr = trim (divL p fl gl).2)) := by
  by_cases h : gl = []
  · subst h
    refine ⟨0, 3, [], [], ?_, ?_, by omega, ⟨Nat.zero_le _, Nat.zero_le _⟩, Or.inl ⟨rfl, rfl⟩⟩
    · intro fa fn fcap ga gn gcap w hf hg
      have h0 : gn = 0 := hg.len.symm
      subst h0
      refine (ppoly_Div0 p fa fn fcap ga gcap p w).mono ?_
      rintro e w' ⟨rfl, hb⟩
      exact ⟨_, _, _, _, _, _, rfl, Sl.of_nil _ _ _ (by omega), Sl.of_nil _ _ _ (by omega), hb⟩
    · intro fa fn fcap ga gn gcap w hf hg
      have h0 : gn = 0 := hg.len.symm
      subst h0
      refine (ref_Div0 p fa fn fcap ga gcap p w).mono ?_
      rintro e w' ⟨rfl, hb⟩
      exact ⟨_, _, _, _, _, _, rfl, Sl.of_nil _ _ _ (by omega), Sl.of_nil _ _ _ (by omega), hb⟩
  · have hl : nth gl (gl.length - 1) ≠ 0 := by
      rcases cg.top with h1 | h1
      · exact absurd h1 h
      · exact h1
    refine ⟨p, 0, _, _, ?_, ?_, hp, ⟨Nat.le_trans (trim_len _) (by unfold divL; rw [(stepsD_len _ _ _ _ _ _).1]; unfold divN; omega), Nat.le_trans (trim_len _) (by unfold divL; rw [(stepsD_len _ _ _ _ _ _).2]; exact Nat.le_refl _)⟩, Or.inr ⟨rfl, rfl, h, rfl, rfl⟩⟩
    · intro fa fn fcap ga gn gcap w hf hg
      have e1 := hf.len
      have e2 := hg.len
      have h0 : 0 < gn := by have := List.length_pos_iff.2 h; omega
      exact (ppoly_DivMod p fa fn fcap fl ga gn gcap gl p w hf hg h0 (by rw [← e2]; exact hl) hp0 hp (by omega) (by omega)).mono fun _ _ h => h.x
    · intro fa fn fcap ga gn gcap w hf hg
      have e1 := hf.len
      have e2 := hg.len
      have h0 : 0 < gn := by have := List.length_pos_iff.2 h; omega
      exact (ref_DivMod p fa fn fcap fl ga gn gcap gl p w hf hg h0 hp0 hp (by omega) (by omega)).mono fun _ _ h => h.x
end Go.Proofs.YtbnjmeeaaieicaaDoor
end
section
open Alg Go Go.RowKit
namespace Alg
/-- is the rest of g by f nothing? -/
def dividesB (p : Nat) (f g : List Nat) : Bool := if f = [] then decide (g = []) else decide (trim (divL p g f).2 = [])
theorem deg_nil {l : List Nat} {n : Nat} (h : l.length = n) : decide (l = []) = decide ((n : Int) - 1 < 0) := by
  subst h
  cases l with
  | nil => rfl
  | cons a t => simp
end Alg
namespace Go.Proofs.YtbnjmeeaaieicaaDoor
open Go.RowKit
set_option maxRecDepth 100000 in
theorem ppoly_divides (p : Nat) (fa : Option Addr) (fn fcap : Nat) (fl : List Nat) (ga : Option Addr) (gn gcap : Nat) (gl : List Nat) (w : World) (hf : Sl w fa fn fcap fl) (hg : Sl w ga gn gcap gl)
    (hp0 : 1 < p) (hp : p < 4294967296) (hfn : fn ≤ 1099511627776) (hgn : gn ≤ 1099511627776) (cf : Canon p fl) :
    Calls Tryd.prog 116 #[.agg #[.int .u32 p, .slice fa fn fcap], .agg #[.int .u32 p, .slice ga gn gcap]] w fun e w' => e = .returned (.bool (dividesB p fl gl)) ∧ Below w.heap.size w w' := by
  have hbx := boxes2 w #[.int .u32 (p : Int), .slice fa fn fcap] #[.int .u32 (p : Int), .slice ga gn gcap] 47 47
  have e1 := hf.len
  have e2 := hg.len
  have hf1 := hf.mono hbx.below
  have hg1 := hg.mono hbx.below
  by_cases h0 : fn = 0
  · have hfl : fl = [] := List.length_eq_zero_iff.1 (by omega)
    subst hfl
    subst h0
    have HB : Hid (dividesB p [] gl = decide ((gn : Int) - 1 < 0)) := by
      show (if _ then _ else _) = _
      rw [if_pos rfl]
      exact deg_nil e2
    go_enter Tryd.func116, Tryd.ntmps116
    go_wp2_with fail
    refine (ppoly_Div0 p ga gn gcap fa fcap p _).mono ?_
    rintro e w1 ⟨rfl, hb1⟩
    have hx1 := hbx.mono hb1
    have hy1 := boxes2 w1 #[.int .u32 0, .slice none 0 0] #[.int .u32 0, .slice none 0 0] 47 47
    have hx2 := hx1.mono hy1.below
    obtain ⟨d0, d1⟩ := hx2.at1 rfl
    go_wp2_with fail
    refine (ppoly_Deg p ga gn gcap _ (by omega)).mono ?_
    rintro e w' ⟨rfl, hb2⟩
    have hx3 := hx2.mono hb2
    go_wp2
    go_ret
    exact ⟨by rw [HB.out]; rfl, hx3.below⟩
  · have hfl : ¬ fl = [] := fun h => by rw [h] at e1; simp at e1; omega
    have hlead : nth fl (fn - 1) ≠ 0 := by
      rcases cf.top with h1 | h1
      · exact absurd h1 hfl
      · rw [← e1]; exact h1
    have HB : Hid (∀ n : Nat, (trim (divL p gl fl).2).length = n → dividesB p fl gl = decide ((n : Int) - 1 < 0)) := by
      intro n hn
      show (if _ then _ else _) = _
      rw [if_neg hfl]
      exact deg_nil hn
    go_enter Tryd.func116, Tryd.ntmps116
    go_wp2_with fail
    refine (ppoly_DivMod p ga gn gcap gl fa fn fcap fl p _ hg1 hf1 (by omega) hlead hp0 hp hgn hfn).mono ?_
    rintro e w1 ⟨a1, n1, cap1, a2, n2, cap2, rfl, _, hr1, hb1, _, _⟩
    have hx1 := hbx.mono hb1
    have hy1 := boxes2 w1 #[.int .u32 (p : Int), .slice a1 n1 cap1] #[.int .u32 (p : Int), .slice a2 n2 cap2] 47 47
    have hx2 := hx1.mono hy1.below
    have e3 := hr1.len
    have HB2 := Alg.hid (HB.out n2 e3)
    have hr2 := hr1.le
    have hr3 := hr1.cap
    have hn2 : n2 ≤ 9223372036854775807 := by omega
    obtain ⟨d0, d1⟩ := hy1.at1 rfl
    go_wp2_with fail
    refine (ppoly_Deg p a2 n2 cap2 _ hn2).mono ?_
    rintro e w' ⟨rfl, hb2⟩
    have hx3 := hx2.mono hb2
    go_wp2
    go_ret
    exact ⟨by rw [HB2.out]; rfl, hx3.below⟩
end Go.Proofs.YtbnjmeeaaieicaaDoor
end
