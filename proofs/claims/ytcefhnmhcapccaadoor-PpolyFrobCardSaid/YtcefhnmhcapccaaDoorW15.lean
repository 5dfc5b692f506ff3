/- Contract of the reference's DivMod. -/
import Derived.Test.YtcefhnmhcapccaaDoorW14
import Derived.Test.YtcefhnmhcapccaaDoorE2
open Alg Go Go.RowKit
namespace Alg
theorem Sl.news {w : World} {x : Addr} {n cap : Nat} {l : List Nat} (h : Sl w (some x) n cap l) : ∀ j u, (vals l)[j]? = some u → w.cell? (x.add j) = some u := by
  intro j u hj
  have hsl := h.len
  have hjl : j < l.length := by
    rcases Nat.lt_or_ge j l.length with h1 | h1
    · exact h1
    · rw [List.getElem?_eq_none (by simpa [vals] using h1)] at hj; exact absurd hj (by simp)
  rw [vals_get l j hjl] at hj
  have hu : Value.int .u32 (nth l j : Nat) = u := by simpa using hj
  subst hu
  rcases h.rd with h0 | ⟨b, off, ha, hc⟩
  · omega
  · simp only [Option.some.injEq] at ha
    subst ha
    have hcj := hc j (by omega)
    have e : (⟨b, off, none⟩ : Addr).add j = ⟨b, off + j, none⟩ := by
      unfold Addr.add; split
      · rename_i h0; subst h0; rfl
      · rfl
    rw [e]; exact hcj
theorem own_fresh (w : World) (U : TypeId) : (w.alloc (.cells #[] U)).ownsRow w.heap.size U 1 (.slice (some ⟨w.heap.size, 0, none⟩) 0 0) 0 [] := by
  refine ⟨rfl, Or.inr ⟨w.heap.size, 0, #[], rfl, Nat.le_refl _, ?_, Nat.le_refl _, Nat.zero_le _, rfl, rfl⟩⟩
  show (w.heap.push _)[w.heap.size]? = _
  rw [Array.getElem?_push_size]
theorem own_row_le (B : Nat) : ∀ k, (Value.slice (some ⟨B, 0, none⟩) 0 0).ownBlock = some k → B ≤ k := by
  intro k hk
  have hk' : some B = some k := hk
  have := Option.some.inj hk'
  omega
end Alg
namespace Go.Proofs.YtcefhnmhcapccaaDoor
open Go.RowKit
theorem Tryd.infoU15 : (Tryd.prog.info? 22).map (fun i => (i.zero, i.size, i.bytes)) = some (some (.int .u32 0), 1, 4) := by kernel_rfl
theorem ref_Div0 (p : Nat) (fa : Option Addr) (fn fcap : Nat) (ga : Option Addr) (gcap : Nat) (q : Int) (w : World) :
    Calls Tryd.prog 15 #[.agg #[.int .u32 p, .slice fa fn fcap], .agg #[.int .u32 q, .slice ga 0 gcap]] w fun e w' => e = .returned (.tuple #[.agg #[.int .u32 0, .slice none 0 0], .agg #[.int .u32 0, .slice none 0 0], .int .i64 3]) ∧ Below w.heap.size w w' := by
  have hbx := boxes4 w #[.int .u32 (p : Int), .slice fa fn fcap] #[.int .u32 q, .slice ga 0 gcap] #[.int .u32 0, .slice none 0 0] #[.int .u32 0, .slice none 0 0] 25 25 25 25
  have hbw := hbx.below
  go_enter Tryd.func15, Tryd.ntmps15
  go_wp2
  (try simp only [Exit.inBlock, Exit.then])
  refine bodyPost_ret (v := .tuple #[.agg #[.int .u32 0, .slice none 0 0], .agg #[.int .u32 0, .slice none 0 0], .int .i64 3]) (by simp [results, Tryd.results15, go_sem]) rfl ?_
  exact ⟨rfl, by go_grown⟩
set_option maxRecDepth 100000 in
set_option maxHeartbeats 2000000 in
theorem ref_DivLess1 (p : Nat) (x : Addr) (fn fcap : Nat) (fl : List Nat) (ga : Option Addr) (gn gcap : Nat) (gl : List Nat) (q : Int) (w : World) (hf : Sl w (some x) fn fcap fl) (hg : Sl w ga gn gcap gl)
    (hg0 : 0 < gn) (hlt : fn < gn) (hp0 : 1 < p) (hp : p < 4294967296) (hfn : fn ≤ 1099511627776) (hgn : gn ≤ 1099511627776) :
    Calls Tryd.prog 15 #[.agg #[.int .u32 p, .slice (some x) fn fcap], .agg #[.int .u32 q, .slice ga gn gcap]] w (RetD p ([], fl) w) := by
  obtain ⟨i0, hi, hz0, hz1, hz2⟩ := info_parts Tryd.infoU15
  rcases hg.rd with h0 | ⟨b', off', rfl, hcg⟩
  · omega
  have HG := Alg.hid hcg
  clear hcg
  have hbx := boxes4 w #[.int .u32 (p : Int), .slice (some x) fn fcap] #[.int .u32 q, .slice (some ⟨b', off', none⟩) gn gcap] #[.int .u32 0, .slice none 0 0] #[.int .u32 0, .slice none 0 0] 25 25 25 25
  have hbxl := hbx.less 2
  have hgb : ((gn : Int) == 0) = false := by simp; omega
  have hgm := hg.lt (gn - 1)
  have K : Hid (∀ W, Boxes w W [#[.int .u32 (p : Int), .slice (some x) fn fcap], #[.int .u32 q, .slice (some ⟨b', off', none⟩) gn gcap]] → W.cell? ⟨w.heap.size, 0, none⟩ = some (.int .u32 (p : Int)) ∧ W.cell? ⟨w.heap.size, 1, none⟩ = some (.slice (some x) fn fcap) ∧ W.cell? ⟨w.heap.size + 1, 0, none⟩ = some (.int .u32 q) ∧ W.cell? ⟨w.heap.size + 1, 1, none⟩ = some (.slice (some ⟨b', off', none⟩) gn gcap) ∧ W.cell? ⟨b', off' + (gn - 1), none⟩ = some (.int .u32 (nth gl (gn - 1) : Nat)) ∧ Boxes w W [#[.int .u32 (p : Int), .slice (some x) fn fcap], #[.int .u32 q, .slice (some ⟨b', off', none⟩) gn gcap]]) :=
    fun W h => ⟨h.cell' 0 0 _ _ rfl rfl, h.cell' 0 1 _ _ rfl rfl, h.cell' 1 0 _ _ rfl rfl, h.cell' 1 1 _ _ rfl rfl, (h.below.cell (p := ⟨b', off' + (gn - 1), none⟩) (cell_lt (HG.out (gn - 1) (by omega)))).trans (HG.out (gn - 1) (by omega)), h⟩
  have hinv : powM p (nth gl (gn - 1)) (p - 2) < p := powM_lt _ _ _ (by omega)
  have s1 : (0 : Int) ≤ (gn : Int) - 1 := by omega
  have s1' : (1 : Int) ≤ (gn : Int) := by omega
  have s2 : (gn : Int) - 1 < gn := by omega
  have s3 : ((gn : Int) - 1).toNat = gn - 1 := by omega
  have s4 : IntKind.i64.wrap ((gn : Int) - 1) = (gn : Int) - 1 := IntWalk.i64_in _ (by omega)
  have s5 : IntKind.u64.wrap (powM p (nth gl (gn - 1)) (p - 2) : Int) = (powM p (nth gl (gn - 1)) (p - 2) : Int) := IntWalk.u64_in _ (by omega)
  go_enter Tryd.func15, Tryd.ntmps15
  go_wp2
  go_region_held3 (fun W => W.cell? ⟨w.heap.size, 0, none⟩ = some (.int .u32 (p : Int)) ∧ W.cell? ⟨w.heap.size, 1, none⟩ = some (.slice (some x) fn fcap) ∧ W.cell? ⟨w.heap.size + 1, 0, none⟩ = some (.int .u32 q) ∧ W.cell? ⟨w.heap.size + 1, 1, none⟩ = some (.slice (some ⟨b', off', none⟩) gn gcap) ∧ W.cell? ⟨b', off' + (gn - 1), none⟩ = some (.int .u32 (nth gl (gn - 1) : Nat)) ∧ Boxes w W [#[.int .u32 (p : Int), .slice (some x) fn fcap], #[.int .u32 q, .slice (some ⟨b', off', none⟩) gn gcap]])
    (first | (exact K.out _ (by assumption)) | (exact K.out _ hbxl.drew) | fail)
    (first
      | (go_at_call 61; refine (ref_inverse p (nth gl (gn - 1)) _ hp0 hp hgm).mono ?_; rintro e w2 ⟨rfl, hw2⟩; have hx1 : Boxes w w2 [#[.int .u32 (p : Int), .slice (some x) fn fcap], #[.int .u32 q, .slice (some ⟨b', off', none⟩) gn gcap], #[.int .u32 0, .slice none 0 0], #[.int .u32 0, .slice none 0 0]] := (by rw [hw2]; exact hbx.drew); clear hw2; have hx1' := hx1.less 2) | fail)
  clear s1 s1' s2 s3 s4 s5
  generalize powM p (nth gl (gn - 1)) (p - 2) = inv at *
  have hf1 := hf.mono hx1.below
  have d1 : (w2.alloc (.cells #[] 22)).cell? ⟨w.heap.size, 1, none⟩ = some (.slice (some x) fn fcap) := (hx1.alloc_any _).cell' 0 1 _ _ rfl rfl
  have hs4 : w.heap.size + 4 ≤ w2.heap.size := by have := hx1.size; simpa using this
  have HN := Alg.hid (Sl.news (hf1.mono ((Below.refl w2.heap.size w2).alloc (Nat.le_refl _) (.cells #[] 22))))
  have HO := Alg.hid (own_fresh w2 22)
  have H1 := Alg.hid (vals_one fl)
  have HV : Hid ((vals fl).length = fn * 1) := Alg.hid (by simp [vals, hf.len])
  have q1 : 0 + fn ≤ maxLen := by unfold maxLen; omega
  have q2 : (0 + fn) * 4 ≤ 140737488355328 := by omega
  go_wp2_with (at_builtin; refine wpList_append_own _ rfl _ _ 23 rfl w2.heap.size 22 i0 (.int .u32 0) 1 4 Tryd.underlying23 hi hz0 hz1 hz2 rfl Nat.one_pos _ 0 [] rfl HO.out x fn fcap (vals fl) rfl HV.out HN.out H1.out q1 q2 (size_le_alloc _ _) ?_; intro v' w3 hown1 hgrow _; have hb3 : Below w2.heap.size w2 w3 := ((Below.refl w2.heap.size w2).alloc (Nat.le_refl _) _).grown hgrow (by simp) (own_row_le _); have hx3 := hx1.mono hb3; have dd1 : w3.cell? ⟨w.heap.size, 1, none⟩ = some (.slice (some x) fn fcap) := hx3.cell' 0 1 _ _ rfl rfl)
  have hgr : Gr w3 22 w2.heap.size v' fn fl := ⟨by simpa using hown1, hf.lt⟩
  obtain ⟨ra, rcap, rfl, hr, hrown⟩ := hgr.sl
  clear hgr hown1 hgrow HN HO H1 HV
  have HR := Alg.hid hrown
  clear hrown
  have hx3' := hx3.less 2
  go_loopw [11] (fun v wr => (∃ z : Int, v = .int .i64 z ∧ z < 0) ∧ wr = w3) (fun _ _ => 0)
  case atStart => exact ⟨⟨_, rfl, by omega⟩, rfl⟩
  case round =>
    obtain ⟨⟨z, rfl, hz⟩, rfl⟩ := hrel
    have hnil : Sl wr.drew none 0 0 [] := Sl.of_nil _ _ _ (by omega)
    have hrd := hr.drew
    go_wp2
    go_region_held3 (fun W => W.cell? ⟨w.heap.size, 0, none⟩ = some (.int .u32 (p : Int)) ∧ W.cell? ⟨w.heap.size, 1, none⟩ = some (.slice (some x) fn fcap) ∧ W.cell? ⟨w.heap.size + 1, 0, none⟩ = some (.int .u32 q) ∧ W.cell? ⟨w.heap.size + 1, 1, none⟩ = some (.slice (some ⟨b', off', none⟩) gn gcap) ∧ W.cell? ⟨b', off' + (gn - 1), none⟩ = some (.int .u32 (nth gl (gn - 1) : Nat)) ∧ Boxes w W [#[.int .u32 (p : Int), .slice (some x) fn fcap], #[.int .u32 q, .slice (some ⟨b', off', none⟩) gn gcap]])
      (first | (exact K.out _ (by assumption)) | (exact K.out _ hx3'.drew) | (exact K.out _ (Boxes.setCell (Boxes.setCell hx5' (by simp; try omega) _) (by simp; try omega) _)) | (exact K.out _ (Boxes.setCell (Boxes.setCell (Boxes.setCell (Boxes.setCell hx5' (by simp; try omega) _) (by simp; try omega) _) (by simp; try omega) _) (by simp; try omega) _)) | fail)
      (first
        | (go_at_call 63; (with_reducible refine (ref_cut p none 0 0 [] wr.drew hnil).mono ?_); rintro e w4 ⟨a1, n1, cap1, rfl, hs4, hb4, hpv4⟩; have hx4 := hx3.drew.mono hb4; have hx4' := hx4.less 2; have hr4 := hrd.mono hb4)
        | (go_at_call 63; (with_reducible refine (ref_cut p ra fn rcap fl w4 hr4).mono ?_); rintro e w5 ⟨a2, n2, cap2, rfl, hs5, hb5, hpv5⟩; have hx5 := hx4.mono hb5; have hx5' := hx5.less 2; have hq5 := hs4.mono hb5; have e0 : w5.cell? ⟨w.heap.size + 1 + 1, 0, none⟩ = some (.int .u32 0) := hx5.cell' 2 0 _ _ rfl rfl; have e1 : w5.cell? ⟨w.heap.size + 1 + 1, 1, none⟩ = some (.slice none 0 0) := hx5.cell' 2 1 _ _ rfl rfl; have e2 : w5.cell? ⟨w.heap.size + 1 + 1 + 1, 0, none⟩ = some (.int .u32 0) := hx5.cell' 3 0 _ _ rfl rfl; have e3 : w5.cell? ⟨w.heap.size + 1 + 1 + 1, 1, none⟩ = some (.slice none 0 0) := hx5.cell' 3 1 _ _ rfl rfl; have f0 : w5.frozen? ⟨w.heap.size + 1 + 1, 0, none⟩ = false := hx5.frozen' 2 0 (by simp); have f1 : w5.frozen? ⟨w.heap.size + 1 + 1, 1, none⟩ = false := hx5.frozen' 2 1 (by simp); have f2 : w5.frozen? ⟨w.heap.size + 1 + 1 + 1, 0, none⟩ = false := hx5.frozen' 3 0 (by simp); have f3 : w5.frozen? ⟨w.heap.size + 1 + 1 + 1, 1, none⟩ = false := hx5.frozen' 3 1 (by simp)) | fail)
    all_goals
      go_wp2
      (try simp only [Exit.inBlock, Exit.then])
      refine bodyPost_ret (v := .tuple #[.agg #[.int .u32 (p : Int), .slice a1 n1 cap1], .agg #[.int .u32 (p : Int), .slice a2 n2 cap2], .int .i64 0]) (by simp [results, Tryd.results15, go_sem, e0, e1, e2, e3]) rfl ?_
      have hn1 : n1 = 0 := by have := hq5.len; simpa [trim] using this.symm
      subst hn1
      have hfl := hf.len
      have hz4 := hx4.size
      simp at hz4
      have hof : Off a2 n2 (w.heap.size + 1 + 1) := own_off hpv5 HR.out hs5 (by omega) (by omega) hfl
      have hof' : Off a2 n2 (w.heap.size + 1 + 1 + 1) := own_off hpv5 HR.out hs5 (by omega) (by omega) hfl
      have hbz : Below w.heap.size w w5 := hx5.below
      refine ⟨_, _, _, _, _, _, rfl, (((hq5.setCell (Or.inl rfl) _).setCell (Or.inl rfl) _).setCell (Or.inl rfl) _).setCell (Or.inl rfl) _, ?_, ?_, Prov.empty, own_prov hpv5 HR.out hs5 (by omega) (by omega) hfl⟩
      · first
          | exact (((hs5.setCell hof _).setCell hof _).setCell hof' _).setCell hof' _
          | exact (((hs5.setCell hof' _).setCell hof' _).setCell hof _).setCell hof _
      · exact (((hbz.setCell (by simp; try omega) _).setCell (by simp; try omega) _).setCell (by simp; try omega) _).setCell (by simp; try omega) _
set_option maxRecDepth 100000 in
set_option maxHeartbeats 2000000 in
theorem ref_DivLess0 (p : Nat) (fcap : Nat) (ga : Option Addr) (gn gcap : Nat) (gl : List Nat) (q : Int) (w : World) (hf : Sl w none 0 fcap []) (hg : Sl w ga gn gcap gl)
    (hg0 : 0 < gn) (hp0 : 1 < p) (hp : p < 4294967296) (hgn : gn ≤ 1099511627776) :
    Calls Tryd.prog 15 #[.agg #[.int .u32 p, .slice none 0 fcap], .agg #[.int .u32 q, .slice ga gn gcap]] w (RetD p ([], []) w) := by
  obtain ⟨i0, hi, hz0, hz1, hz2⟩ := info_parts Tryd.infoU15
  rcases hg.rd with h0 | ⟨b', off', rfl, hcg⟩
  · omega
  have HG := Alg.hid hcg
  clear hcg
  have hbx := boxes4 w #[.int .u32 (p : Int), .slice none 0 fcap] #[.int .u32 q, .slice (some ⟨b', off', none⟩) gn gcap] #[.int .u32 0, .slice none 0 0] #[.int .u32 0, .slice none 0 0] 25 25 25 25
  have hbxl := hbx.less 2
  have hgb : ((gn : Int) == 0) = false := by simp; omega
  have hgm := hg.lt (gn - 1)
  have K : Hid (∀ W, Boxes w W [#[.int .u32 (p : Int), .slice none 0 fcap], #[.int .u32 q, .slice (some ⟨b', off', none⟩) gn gcap]] → W.cell? ⟨w.heap.size, 0, none⟩ = some (.int .u32 (p : Int)) ∧ W.cell? ⟨w.heap.size, 1, none⟩ = some (.slice none 0 fcap) ∧ W.cell? ⟨w.heap.size + 1, 0, none⟩ = some (.int .u32 q) ∧ W.cell? ⟨w.heap.size + 1, 1, none⟩ = some (.slice (some ⟨b', off', none⟩) gn gcap) ∧ W.cell? ⟨b', off' + (gn - 1), none⟩ = some (.int .u32 (nth gl (gn - 1) : Nat)) ∧ Boxes w W [#[.int .u32 (p : Int), .slice none 0 fcap], #[.int .u32 q, .slice (some ⟨b', off', none⟩) gn gcap]]) :=
    fun W h => ⟨h.cell' 0 0 _ _ rfl rfl, h.cell' 0 1 _ _ rfl rfl, h.cell' 1 0 _ _ rfl rfl, h.cell' 1 1 _ _ rfl rfl, (h.below.cell (p := ⟨b', off' + (gn - 1), none⟩) (cell_lt (HG.out (gn - 1) (by omega)))).trans (HG.out (gn - 1) (by omega)), h⟩
  have hinv : powM p (nth gl (gn - 1)) (p - 2) < p := powM_lt _ _ _ (by omega)
  have s1 : (0 : Int) ≤ (gn : Int) - 1 := by omega
  have s1' : (1 : Int) ≤ (gn : Int) := by omega
  have s2 : (gn : Int) - 1 < gn := by omega
  have s3 : ((gn : Int) - 1).toNat = gn - 1 := by omega
  have s4 : IntKind.i64.wrap ((gn : Int) - 1) = (gn : Int) - 1 := IntWalk.i64_in _ (by omega)
  have s5 : IntKind.u64.wrap (powM p (nth gl (gn - 1)) (p - 2) : Int) = (powM p (nth gl (gn - 1)) (p - 2) : Int) := IntWalk.u64_in _ (by omega)
  go_enter Tryd.func15, Tryd.ntmps15
  go_wp2
  go_region_held3 (fun W => W.cell? ⟨w.heap.size, 0, none⟩ = some (.int .u32 (p : Int)) ∧ W.cell? ⟨w.heap.size, 1, none⟩ = some (.slice none 0 fcap) ∧ W.cell? ⟨w.heap.size + 1, 0, none⟩ = some (.int .u32 q) ∧ W.cell? ⟨w.heap.size + 1, 1, none⟩ = some (.slice (some ⟨b', off', none⟩) gn gcap) ∧ W.cell? ⟨b', off' + (gn - 1), none⟩ = some (.int .u32 (nth gl (gn - 1) : Nat)) ∧ Boxes w W [#[.int .u32 (p : Int), .slice none 0 fcap], #[.int .u32 q, .slice (some ⟨b', off', none⟩) gn gcap]])
    (first | (exact K.out _ (by assumption)) | (exact K.out _ hbxl.drew) | fail)
    (first
      | (go_at_call 61; refine (ref_inverse p (nth gl (gn - 1)) _ hp0 hp hgm).mono ?_; rintro e w2 ⟨rfl, hw2⟩; have hx1 : Boxes w w2 [#[.int .u32 (p : Int), .slice none 0 fcap], #[.int .u32 q, .slice (some ⟨b', off', none⟩) gn gcap], #[.int .u32 0, .slice none 0 0], #[.int .u32 0, .slice none 0 0]] := (by rw [hw2]; exact hbx.drew); clear hw2; have hx1' := hx1.less 2) | fail)
  clear s1 s1' s2 s3 s4 s5
  generalize powM p (nth gl (gn - 1)) (p - 2) = inv at *
  have hf1 := hf.mono hx1.below
  have d1 : (w2.alloc (.cells #[] 22)).cell? ⟨w.heap.size, 1, none⟩ = some (.slice none 0 fcap) := (hx1.alloc_any _).cell' 0 1 _ _ rfl rfl
  have hs4 : w.heap.size + 4 ≤ w2.heap.size := by have := hx1.size; simpa using this
  have hx3 := hx1.alloc_any (.cells #[] 22)
  obtain ⟨w3, hw3⟩ : ∃ w3, w3 = w2.alloc (.cells #[] 22) := ⟨_, rfl⟩
  go_wp2
  rw [← hw3] at hx3
  rw [← hw3]
  have hr : Sl w3 (some ⟨w2.heap.size, 0, none⟩) 0 0 [] := Sl.of_nil _ _ _ (by omega)
  have hrown : (0 = 0 ∨ ∃ g, (some ⟨w2.heap.size, 0, none⟩ : Option Addr) = some ⟨g, 0, none⟩ ∧ w2.heap.size ≤ g) := Or.inl rfl
  have hz3 : w2.heap.size ≤ w3.heap.size := by rw [hw3]; exact size_le_alloc _ _
  clear hw3 d1
  clear hrown
  have hx3' := hx3.less 2
  go_loopw [11] (fun v wr => (∃ z : Int, v = .int .i64 z ∧ z < 0) ∧ wr = w3) (fun _ _ => 0)
  case atStart => exact ⟨⟨_, rfl, by omega⟩, rfl⟩
  case round =>
    obtain ⟨⟨z, rfl, hz⟩, rfl⟩ := hrel
    have hnil : Sl wr.drew none 0 0 [] := Sl.of_nil _ _ _ (by omega)
    have hrd := hr.drew
    go_wp2
    go_region_held3 (fun W => W.cell? ⟨w.heap.size, 0, none⟩ = some (.int .u32 (p : Int)) ∧ W.cell? ⟨w.heap.size, 1, none⟩ = some (.slice none 0 fcap) ∧ W.cell? ⟨w.heap.size + 1, 0, none⟩ = some (.int .u32 q) ∧ W.cell? ⟨w.heap.size + 1, 1, none⟩ = some (.slice (some ⟨b', off', none⟩) gn gcap) ∧ W.cell? ⟨b', off' + (gn - 1), none⟩ = some (.int .u32 (nth gl (gn - 1) : Nat)) ∧ Boxes w W [#[.int .u32 (p : Int), .slice none 0 fcap], #[.int .u32 q, .slice (some ⟨b', off', none⟩) gn gcap]])
      (first | (exact K.out _ (by assumption)) | (exact K.out _ hx3'.drew) | (exact K.out _ (Boxes.setCell (Boxes.setCell hx5' (by simp; try omega) _) (by simp; try omega) _)) | (exact K.out _ (Boxes.setCell (Boxes.setCell (Boxes.setCell (Boxes.setCell hx5' (by simp; try omega) _) (by simp; try omega) _) (by simp; try omega) _) (by simp; try omega) _)) | fail)
      (first
        | (go_at_call 63; (with_reducible refine (ref_cut p none 0 0 [] wr.drew hnil).mono ?_); rintro e w4 ⟨a1, n1, cap1, rfl, hs4, hb4, hpv4⟩; have hx4 := hx3.drew.mono hb4; have hx4' := hx4.less 2; have hr4 := hrd.mono hb4)
        | (go_at_call 63; (with_reducible refine (ref_cut p (some ⟨w2.heap.size, 0, none⟩) 0 0 [] w4 hr4).mono ?_); rintro e w5 ⟨a2, n2, cap2, rfl, hs5, hb5, hpv5⟩; have hx5 := hx4.mono hb5; have hx5' := hx5.less 2; have hq5 := hs4.mono hb5; have e0 : w5.cell? ⟨w.heap.size + 1 + 1, 0, none⟩ = some (.int .u32 0) := hx5.cell' 2 0 _ _ rfl rfl; have e1 : w5.cell? ⟨w.heap.size + 1 + 1, 1, none⟩ = some (.slice none 0 0) := hx5.cell' 2 1 _ _ rfl rfl; have e2 : w5.cell? ⟨w.heap.size + 1 + 1 + 1, 0, none⟩ = some (.int .u32 0) := hx5.cell' 3 0 _ _ rfl rfl; have e3 : w5.cell? ⟨w.heap.size + 1 + 1 + 1, 1, none⟩ = some (.slice none 0 0) := hx5.cell' 3 1 _ _ rfl rfl; have f0 : w5.frozen? ⟨w.heap.size + 1 + 1, 0, none⟩ = false := hx5.frozen' 2 0 (by simp); have f1 : w5.frozen? ⟨w.heap.size + 1 + 1, 1, none⟩ = false := hx5.frozen' 2 1 (by simp); have f2 : w5.frozen? ⟨w.heap.size + 1 + 1 + 1, 0, none⟩ = false := hx5.frozen' 3 0 (by simp); have f3 : w5.frozen? ⟨w.heap.size + 1 + 1 + 1, 1, none⟩ = false := hx5.frozen' 3 1 (by simp)) | fail)
    all_goals
      go_wp2
      (try simp only [Exit.inBlock, Exit.then])
      refine bodyPost_ret (v := .tuple #[.agg #[.int .u32 (p : Int), .slice a1 n1 cap1], .agg #[.int .u32 (p : Int), .slice a2 n2 cap2], .int .i64 0]) (by simp [results, Tryd.results15, go_sem, e0, e1, e2, e3]) rfl ?_
      have hn1 : n1 = 0 := by have := hq5.len; simpa [trim] using this.symm
      subst hn1
      have hfl := hf.len
      have hz4 := hx4.size
      simp at hz4
      have hof : Off a2 n2 (w.heap.size + 1 + 1) := own_off hpv5 (Or.inl rfl : (0 : Nat) = 0 ∨ ∃ g, (some ⟨w2.heap.size, 0, none⟩ : Option Addr) = some ⟨g, 0, none⟩ ∧ w2.heap.size ≤ g) hs5 (by omega) (by omega) hfl
      have hof' : Off a2 n2 (w.heap.size + 1 + 1 + 1) := own_off hpv5 (Or.inl rfl : (0 : Nat) = 0 ∨ ∃ g, (some ⟨w2.heap.size, 0, none⟩ : Option Addr) = some ⟨g, 0, none⟩ ∧ w2.heap.size ≤ g) hs5 (by omega) (by omega) hfl
      have hbz : Below w.heap.size w w5 := hx5.below
      refine ⟨_, _, _, _, _, _, rfl, (((hq5.setCell (Or.inl rfl) _).setCell (Or.inl rfl) _).setCell (Or.inl rfl) _).setCell (Or.inl rfl) _, ?_, ?_, Prov.empty, own_prov hpv5 (Or.inl rfl : (0 : Nat) = 0 ∨ ∃ g, (some ⟨w2.heap.size, 0, none⟩ : Option Addr) = some ⟨g, 0, none⟩ ∧ w2.heap.size ≤ g) hs5 (by omega) (by omega) hfl⟩
      · first
          | exact (((hs5.setCell hof _).setCell hof _).setCell hof' _).setCell hof' _
          | exact (((hs5.setCell hof' _).setCell hof' _).setCell hof _).setCell hof _
      · exact (((hbz.setCell (by simp; try omega) _).setCell (by simp; try omega) _).setCell (by simp; try omega) _).setCell (by simp; try omega) _
end Go.Proofs.YtcefhnmhcapccaaDoor
