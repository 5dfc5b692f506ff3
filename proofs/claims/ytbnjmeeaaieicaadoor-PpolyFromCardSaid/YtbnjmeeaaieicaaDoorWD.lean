/- Contracts of ppoly.Up, Sym and of the reference's small, Up, Sym. -/
import Derived.Test.YtbnjmeeaaieicaaDoorA31
import Derived.Test.YtbnjmeeaaieicaaDoorG5
open Alg Go Go.RowKit
namespace Alg
theorem sl_1v (W : World) (n : Nat) (hn : n < 4294967296) (T : TypeId) : Sl (W.alloc (.cells #[.int .u32 (n : Int)] T)) (some ⟨W.heap.size, 0, none⟩) 1 1 [n] := by
  refine ⟨rfl, Nat.le_refl _, by omega, fun i => ?_, Or.inr ⟨_, _, rfl, fun i hi => ?_⟩⟩
  · match i with
    | 0 => exact hn
    | i + 1 => show ([] : List Nat).getD i 0 < _; simp
  · rw [cell_box]
    match i, hi with
    | 0, _ => rfl
/-- the call hands back a polynomial with whole coefficients -/
def RetZ (L : List (Bool × List Nat)) (w : World) (e : Ending) (w' : World) : Prop := ∃ a n cap, e = .returned (.slice a n cap) ∧ SlK kInt w' a n cap L ∧ Below w.heap.size w w'
theorem take_mapz {α : Type} (f : Nat → α) (l : List Nat) (k : Nat) (h : k < l.length) : (l.map f).take (k + 1) = (l.map f).take k ++ [f (nth l k)] := by
  rw [List.take_add_one, List.getElem?_eq_getElem (by simpa using h)]
  simp [nth, List.getD_eq_getElem?_getD, h]
end Alg
namespace Go.Proofs.YtbnjmeeaaieicaaDoor
open Go.RowKit
theorem lim_of_lt {c : Nat} (h : c < 4294967296) : lim c = if c = 0 then [] else [c] := by
  split
  · rename_i e; rw [e, lim_zero]
  · exact lim_one (by omega) h
set_option maxRecDepth 100000 in
theorem ref_smallZ (neg : Bool) (n : Nat) (w : World) (hn : n < 4294967296) :
    Calls Tryd.prog 98 #[.bool neg, .int .u32 (n : Int)] w (RetT2 neg (lim n) w) := by
  have hbx := boxes1 w #[.bool false, .slice none 0 0] 25
  by_cases h0 : n = 0
  · subst h0
    go_enter Tryd.func98, Tryd.ntmps98
    go_wp2
    (try simp only [Exit.inBlock, Exit.then])
    refine bodyPost_ret (v := .agg #[.bool false, .slice none 0 0]) (by simp [results, Tryd.results98, go_sem]) rfl ?_
    exact ⟨none, 0, 0, by cases neg <;> rfl, by rw [lim_zero]; exact Sl.of_nil _ _ _ (by omega), hbx.below, Or.inl rfl⟩
  · have hq : ((n : Int) == 0) = false := by simp; omega
    have hqn : ¬ n = 0 := h0
    have hby := boxes1 w #[.bool neg, .slice (some ⟨w.heap.size + 1, 0, none⟩) 1 1] 25
    have hz := hby.alloc_any (.cells #[.int .u32 (n : Int)] 22)
    have hs : Sl ((w.alloc (.cells #[.bool neg, .slice (some ⟨w.heap.size + 1, 0, none⟩) 1 1] 25)).alloc (.cells #[.int .u32 (n : Int)] 22)) (some ⟨w.heap.size + 1, 0, none⟩) 1 1 [n] := by
      have := sl_1v (w.alloc (.cells #[.bool neg, .slice (some ⟨w.heap.size + 1, 0, none⟩) 1 1] 25)) n hn 22
      rwa [World.size_alloc] at this
    rw [lim_one (by omega) hn]
    clear hbx h0
    go_enter Tryd.func98, Tryd.ntmps98
    go_wp2
    (try simp only [Exit.inBlock, Exit.then])
    refine bodyPost_ret (v := .agg #[.bool neg, .slice (some ⟨w.heap.size + 1, 0, none⟩) 1 1]) (by simp [results, Tryd.results98, go_sem]) rfl ?_
    exact ⟨_, _, _, by cases neg <;> rfl, hs, hz.below, Or.inr (Or.inr ⟨_, _, _, rfl, by omega⟩)⟩
set_option maxRecDepth 100000 in
set_option maxHeartbeats 400000 in
theorem ppoly_Up (p : Nat) (fa : Option Addr) (fn fcap : Nat) (fl : List Nat) (w : World) (hf : Sl w fa fn fcap fl) (hfn : fn ≤ 100000) (hp : p < 4294967296) (hc : ∀ i, nth fl i < p) :
    Calls Tryd.prog 65 #[.agg #[.int .u32 (p : Int), .slice fa fn fcap]] w (RetZ (zupL fl) w) := by
  obtain ⟨ii, hi, hz0, hz1, hz2⟩ := info_parts Tryd.infoI
  have HI := Alg.hid hi
  have HQ0 := Alg.hid hz0
  have HQ1 := Alg.hid hz1
  have HQ2 := Alg.hid hz2
  have HC := Alg.hid hc
  clear hi hz0 hz1 hz2 hc
  have lf := hf.len
  have lef := hf.le
  have lcf := hf.cap
  have hbx := boxes1 w #[.int .u32 (p : Int), .slice fa fn fcap] 47
  go_enter Tryd.func65, Tryd.ntmps65
  go_upto_region 1 with fail
  generalize hW0 : w.alloc (.cells #[.int .u32 (p : Int), .slice fa fn fcap] 47) = W0 at hbx ⊢
  clear hW0
  have K : Hid (∀ W, Boxes w W [#[.int .u32 (p : Int), .slice fa fn fcap]] → W.cell? ⟨w.heap.size, 0, none⟩ = some (.int .u32 (p : Int)) ∧ W.cell? ⟨w.heap.size, 1, none⟩ = some (.slice fa fn fcap)) := fun W h => ⟨h.cell' 0 0 _ _ rfl rfl, h.cell' 0 1 _ _ rfl rfl⟩
  obtain ⟨d0, d1⟩ := K.out W0 hbx
  have HX0 := Alg.hid hbx
  go_wp2
  go_loopw [3, 9] (fun v i wr => ∃ k : Nat, ∃ vv : Value, vv = v ∧ i = .int .i64 k ∧ k ≤ fn ∧ Hid (GrK kInt wr 25 (w.heap.size + 1) [] vv k ((zupL fl).take k)) ∧ Hid (Boxes w wr [#[.int .u32 (p : Int), .slice fa fn fcap]])) (fun _ i _ => fn - (intOf i).toNat)
  case atStart => exact ⟨0, .slice none 0 0, rfl, rfl, Nat.zero_le _, by rw [List.take_zero]; exact GrK.nil _ _ _ _ _, HX0⟩
  case round =>
    clear HX0 d0 d1 hbx
    obtain ⟨k, vv, rfl, rfl, hk, hG, hx⟩ := hrel
    obtain ⟨d0, d1⟩ := K.out wr hx.out
    by_cases hkn : k < fn
    · have hkn' : (k : Int) < (fn : Int) := by omega
      have hk0 : (0 : Int) ≤ (k : Int) := by omega
      rcases hf.rd with h | ⟨b, off, rfl, hcf⟩
      · omega
      have c1 : wr.cell? ⟨b, off + k, none⟩ = some (.int .u32 (nth fl k : Nat)) := (hx.out.below.cell (p := ⟨b, off + k, none⟩) (cell_lt (hcf k hkn))).trans (hcf k hkn)
      clear hcf
      have hcl := HC.out k
      have hTK : Hid ((zupL fl).take (k + 1) = (zupL fl).take k ++ [(false, lim (nth fl k))]) := by show _ = _; exact take_mapz _ fl k (by omega)
      obtain ⟨cc0, hcc⟩ : ∃ c, c = nth fl k := ⟨_, rfl⟩
      rw [← hcc] at c1 hcl hTK
      clear hcc
      have t1 : k + 1 ≤ maxLen := by unfold maxLen; omega
      have t2 : (k + 1) * 32 ≤ 140737488355328 := by omega
      have hsz0 : w.heap.size + 1 ≤ wr.heap.size := hx.out.size
      have hw1 : IntKind.i64.wrap (cc0 : Int) = (cc0 : Int) := by rw [IntKind.wrap_i64]; omega
      go_wp2_with fail
      refine (whole_Of_nat cc0 wr (by omega)).mono ?_
      rw [limbs_lim (by omega)]
      rintro e w1 ⟨oa, on, rfl, hso, hb1, hpv⟩
      have hG1 := hG.out.mono hb1
      have hx1 := Alg.hid (hx.out.mono hb1)
      have hsz : w.heap.size + 1 ≤ w1.heap.size := Nat.le_trans hsz0 hb1.size
      obtain ⟨xs, hown, hgrow⟩ := hG1.grow
      have hvr := hG.out.row
      have hvr1 := hG1.row
      have hkk : kInt.ok w1 (vv.ownBlock.toList ++ []) [.bool false, .slice oa on on] (false, lim cc0) := kInt_mk hso (Offs.fresh hpv fun r hr => by rw [List.append_nil] at hr; exact (hvr r (by simpa using hr)).2)
      have HOWN := Alg.hid hown
      have HGR := Alg.hid (fun w9 gg cc (o : Obj) h1 h2 h3 => hgrow w1 w9 [.bool false, .slice oa on on] (false, lim cc0) o gg cc (Below.refl _ _) hkk h1 h2 h3)
      have Q2 : Hid (∀ u ∈ [.bool false, .slice oa on on], Value.oneCell' u = true) := kInt.cells hkk
      clear hown hgrow hkk hG1 hso hpv hG hvr d0 d1 c1
      go_wp2_with (first | (at_builtin; refine wpList_append_lies _ rfl _ _ 62 rfl (w.heap.size + 1) 25 ii _ 2 32 Tryd.underlying62 HI.out HQ0.out HQ1.out HQ2.out rfl (by decide) _ k xs rfl (HOWN.out.alloc _) ⟨w1.heap.size, 0, none⟩ 1 1 [.bool false, .slice oa on on] rfl rfl news_two Q2.out Nat.one_pos t1 t2 (Nat.le_trans hsz (size_le_alloc _ _)) (w1.heap.size + 1) (World.size_alloc _ _) ?_; intro gg cc w9 hown9 hgrow9 hat9 hlt9; have hG9 := Alg.hid (HGR.out w9 gg cc _ hown9 hgrow9 hat9); have hx9 := Alg.hid ((hx1.out.alloc_any _).grown hgrow9 (fun q e => by have := (hvr1 q e).1; simp only [List.length_cons, List.length_nil]; omega))) | fail)
      rw [← hTK.out] at hG9
      go_roundw
      case rel => exact ⟨k + 1, _, rfl, by go_num, by omega, hG9, hx9⟩
      case measure => simp [intOf]; omega
    · obtain rfl : k = fn := by omega
      have hkn' : ¬ (k : Int) < (k : Int) := by omega
      have hGo := hG.out
      rw [List.take_of_length_le (by simp only [zupL, List.length_map]; omega)] at hGo
      obtain ⟨va, vc, rfl, hsl, _⟩ := hGo.sl
      have hxx := hx.out.below
      clear hG hGo
      go_wp2
      go_ret
      exact ⟨_, _, _, rfl, hsl, hxx⟩
set_option maxRecDepth 100000 in
set_option maxHeartbeats 400000 in
theorem ref_Up (p : Nat) (fa : Option Addr) (fn fcap : Nat) (fl : List Nat) (w : World) (hf : Sl w fa fn fcap fl) (hfn : fn ≤ 100000) (hp : p < 4294967296) (hc : ∀ i, nth fl i < p) :
    Calls Tryd.prog 66 #[.agg #[.int .u32 (p : Int), .slice fa fn fcap]] w (RetZ (zupL fl) w) := by
  obtain ⟨ii, hi, hz0, hz1, hz2⟩ := info_parts Tryd.infoI
  have HI := Alg.hid hi
  have HQ0 := Alg.hid hz0
  have HQ1 := Alg.hid hz1
  have HQ2 := Alg.hid hz2
  have HC := Alg.hid hc
  clear hi hz0 hz1 hz2 hc
  have lf := hf.len
  have lef := hf.le
  have lcf := hf.cap
  have hbx := boxes1 w #[.int .u32 (p : Int), .slice fa fn fcap] 47
  go_enter Tryd.func66, Tryd.ntmps66
  go_upto_region 1 with fail
  generalize hW0 : w.alloc (.cells #[.int .u32 (p : Int), .slice fa fn fcap] 47) = W0 at hbx ⊢
  clear hW0
  have K : Hid (∀ W, Boxes w W [#[.int .u32 (p : Int), .slice fa fn fcap]] → W.cell? ⟨w.heap.size, 0, none⟩ = some (.int .u32 (p : Int)) ∧ W.cell? ⟨w.heap.size, 1, none⟩ = some (.slice fa fn fcap)) := fun W h => ⟨h.cell' 0 0 _ _ rfl rfl, h.cell' 0 1 _ _ rfl rfl⟩
  obtain ⟨d0, d1⟩ := K.out W0 hbx
  have HX0 := Alg.hid hbx
  go_wp2
  go_loopw [3, 4] (fun v i wr => ∃ k : Nat, ∃ vv : Value, vv = v ∧ i = .int .i64 k ∧ k ≤ fn ∧ Hid (GrK kInt wr 25 (w.heap.size + 1) [] vv k ((zupL fl).take k)) ∧ Hid (Boxes w wr [#[.int .u32 (p : Int), .slice fa fn fcap]])) (fun _ i _ => fn - (intOf i).toNat)
  case atStart => exact ⟨0, .slice none 0 0, rfl, rfl, Nat.zero_le _, by rw [List.take_zero]; exact GrK.nil _ _ _ _ _, HX0⟩
  case round =>
    clear HX0 d0 d1 hbx
    obtain ⟨k, vv, rfl, rfl, hk, hG, hx⟩ := hrel
    obtain ⟨d0, d1⟩ := K.out wr hx.out
    by_cases hkn : k < fn
    · have hkn' : (k : Int) < (fn : Int) := by omega
      have hk0 : (0 : Int) ≤ (k : Int) := by omega
      rcases hf.rd with h | ⟨b, off, rfl, hcf⟩
      · omega
      have c1 : wr.cell? ⟨b, off + k, none⟩ = some (.int .u32 (nth fl k : Nat)) := (hx.out.below.cell (p := ⟨b, off + k, none⟩) (cell_lt (hcf k hkn))).trans (hcf k hkn)
      clear hcf
      have hcl := HC.out k
      have hTK : Hid ((zupL fl).take (k + 1) = (zupL fl).take k ++ [(false, lim (nth fl k))]) := by show _ = _; exact take_mapz _ fl k (by omega)
      obtain ⟨cc0, hcc⟩ : ∃ c, c = nth fl k := ⟨_, rfl⟩
      rw [← hcc] at c1 hcl hTK
      clear hcc
      have t1 : k + 1 ≤ maxLen := by unfold maxLen; omega
      have t2 : (k + 1) * 32 ≤ 140737488355328 := by omega
      have hsz0 : w.heap.size + 1 ≤ wr.heap.size := hx.out.size
      go_wp2_with fail
      refine (ref_smallZ false cc0 wr (by omega)).mono ?_
      rintro e w1 ⟨oa, on, oc, rfl, hso, hb1, hpv⟩
      rw [sg_f]
      have hG1 := hG.out.mono hb1
      have hx1 := Alg.hid (hx.out.mono hb1)
      have hsz : w.heap.size + 1 ≤ w1.heap.size := Nat.le_trans hsz0 hb1.size
      obtain ⟨xs, hown, hgrow⟩ := hG1.grow
      have hvr := hG.out.row
      have hvr1 := hG1.row
      have hkk : kInt.ok w1 (vv.ownBlock.toList ++ []) [.bool false, .slice oa on oc] (false, lim cc0) := kInt_mk hso (Offs.fresh hpv fun r hr => by rw [List.append_nil] at hr; exact (hvr r (by simpa using hr)).2)
      have HOWN := Alg.hid hown
      have HGR := Alg.hid (fun w9 gg cc (o : Obj) h1 h2 h3 => hgrow w1 w9 [.bool false, .slice oa on oc] (false, lim cc0) o gg cc (Below.refl _ _) hkk h1 h2 h3)
      have Q2 : Hid (∀ u ∈ [.bool false, .slice oa on oc], Value.oneCell' u = true) := kInt.cells hkk
      clear hown hgrow hkk hG1 hso hpv hG hvr d0 d1 c1
      go_wp2_with (first | (at_builtin; refine wpList_append_lies _ rfl _ _ 62 rfl (w.heap.size + 1) 25 ii _ 2 32 Tryd.underlying62 HI.out HQ0.out HQ1.out HQ2.out rfl (by decide) _ k xs rfl (HOWN.out.alloc _) ⟨w1.heap.size, 0, none⟩ 1 1 [.bool false, .slice oa on oc] rfl rfl news_two Q2.out Nat.one_pos t1 t2 (Nat.le_trans hsz (size_le_alloc _ _)) (w1.heap.size + 1) (World.size_alloc _ _) ?_; intro gg cc w9 hown9 hgrow9 hat9 hlt9; have hG9 := Alg.hid (HGR.out w9 gg cc _ hown9 hgrow9 hat9); have hx9 := Alg.hid ((hx1.out.alloc_any _).grown hgrow9 (fun q e => by have := (hvr1 q e).1; simp only [List.length_cons, List.length_nil]; omega))) | fail)
      rw [← hTK.out] at hG9
      go_roundw
      case rel => exact ⟨k + 1, _, rfl, by go_num, by omega, hG9, hx9⟩
      case measure => simp [intOf]; omega
    · obtain rfl : k = fn := by omega
      have hkn' : ¬ (k : Int) < (k : Int) := by omega
      have hGo := hG.out
      rw [List.take_of_length_le (by simp only [zupL, List.length_map]; omega)] at hGo
      obtain ⟨va, vc, rfl, hsl, _⟩ := hGo.sl
      have hxx := hx.out.below
      clear hG hGo
      go_wp2
      go_ret
      exact ⟨_, _, _, rfl, hsl, hxx⟩
set_option maxRecDepth 100000 in
set_option maxHeartbeats 400000 in
theorem ppoly_Sym (p : Nat) (fa : Option Addr) (fn fcap : Nat) (fl : List Nat) (w : World) (hf : Sl w fa fn fcap fl) (hfn : fn ≤ 100000) (hp : p < 4294967296) (hc : ∀ i, nth fl i < p) :
    Calls Tryd.prog 67 #[.agg #[.int .u32 (p : Int), .slice fa fn fcap]] w (RetZ (zsymL p fl) w) := by
  obtain ⟨ii, hi, hz0, hz1, hz2⟩ := info_parts Tryd.infoI
  have HI := Alg.hid hi
  have HQ0 := Alg.hid hz0
  have HQ1 := Alg.hid hz1
  have HQ2 := Alg.hid hz2
  have HC := Alg.hid hc
  clear hi hz0 hz1 hz2 hc
  have lf := hf.len
  have lef := hf.le
  have lcf := hf.cap
  have hbx := boxes1 w #[.int .u32 (p : Int), .slice fa fn fcap] 47
  go_enter Tryd.func67, Tryd.ntmps67
  go_upto_region 1 with fail
  generalize hW0 : w.alloc (.cells #[.int .u32 (p : Int), .slice fa fn fcap] 47) = W0 at hbx ⊢
  clear hW0
  have K : Hid (∀ W, Boxes w W [#[.int .u32 (p : Int), .slice fa fn fcap]] → W.cell? ⟨w.heap.size, 0, none⟩ = some (.int .u32 (p : Int)) ∧ W.cell? ⟨w.heap.size, 1, none⟩ = some (.slice fa fn fcap)) := fun W h => ⟨h.cell' 0 0 _ _ rfl rfl, h.cell' 0 1 _ _ rfl rfl⟩
  obtain ⟨d0, d1⟩ := K.out W0 hbx
  have HX0 := Alg.hid hbx
  go_wp2
  go_loopw [3, 10] (fun v i wr => ∃ k : Nat, ∃ vv : Value, vv = v ∧ i = .int .i64 k ∧ k ≤ fn ∧ Hid (GrK kInt wr 25 (w.heap.size + 1) [] vv k ((zsymL p fl).take k)) ∧ Hid (Boxes w wr [#[.int .u32 (p : Int), .slice fa fn fcap]])) (fun _ i _ => fn - (intOf i).toNat)
  case atStart => exact ⟨0, .slice none 0 0, rfl, rfl, Nat.zero_le _, by rw [List.take_zero]; exact GrK.nil _ _ _ _ _, HX0⟩
  case round =>
    clear HX0 d0 d1 hbx
    obtain ⟨k, vv, rfl, rfl, hk, hG, hx⟩ := hrel
    obtain ⟨d0, d1⟩ := K.out wr hx.out
    by_cases hkn : k < fn
    · have hkn' : (k : Int) < (fn : Int) := by omega
      have hk0 : (0 : Int) ≤ (k : Int) := by omega
      rcases hf.rd with h | ⟨b, off, rfl, hcf⟩
      · omega
      have c1 : wr.cell? ⟨b, off + k, none⟩ = some (.int .u32 (nth fl k : Nat)) := (hx.out.below.cell (p := ⟨b, off + k, none⟩) (cell_lt (hcf k hkn))).trans (hcf k hkn)
      clear hcf
      have hcl := HC.out k
      have hTK : Hid ((zsymL p fl).take (k + 1) = (zsymL p fl).take k ++ [symC p (nth fl k)]) := by show _ = _; exact take_mapz _ fl k (by omega)
      obtain ⟨cc0, hcc⟩ : ∃ c, c = nth fl k := ⟨_, rfl⟩
      rw [← hcc] at c1 hcl hTK
      clear hcc
      have t1 : k + 1 ≤ maxLen := by unfold maxLen; omega
      have t2 : (k + 1) * 32 ≤ 140737488355328 := by omega
      have hsz0 : w.heap.size + 1 ≤ wr.heap.size := hx.out.size
      have hw1 : IntKind.i64.wrap (cc0 : Int) = (cc0 : Int) := by rw [IntKind.wrap_i64]; omega
      have hw2 : IntKind.i64.wrap (p : Int) = (p : Int) := by rw [IntKind.wrap_i64]; omega
      by_cases hs : p < 2 * cc0
      · have hs1 : (cc0 : Int) > (p : Int) / 2 := by omega
        obtain ⟨dd, hdd⟩ : ∃ d, d = p - cc0 := ⟨_, rfl⟩
        have hd1 : (cc0 : Int) - (p : Int) = -(dd : Int) := by omega
        have hw3 : IntKind.i64.wrap (-(dd : Int)) = -(dd : Int) := by rw [IntKind.wrap_i64]; omega
        have hsy : symC p cc0 = (true, lim dd) := by unfold symC; rw [if_pos hs, hdd]
        rw [hsy] at hTK
        have hdb : 0 < dd ∧ dd < 4294967296 := by omega
        clear hsy hdd
        go_wp2_with fail
        refine (whole_Of_neg dd wr (by omega) (by omega)).mono ?_
        rw [limbs_lim (by omega)]
        rintro e w1 ⟨oa, on, rfl, hso, hb1, hpv⟩
        have hG1 := hG.out.mono hb1
        have hx1 := Alg.hid (hx.out.mono hb1)
        have hsz : w.heap.size + 1 ≤ w1.heap.size := Nat.le_trans hsz0 hb1.size
        obtain ⟨xs, hown, hgrow⟩ := hG1.grow
        have hvr := hG.out.row
        have hvr1 := hG1.row
        have hkk : kInt.ok w1 (vv.ownBlock.toList ++ []) [.bool true, .slice oa on on] (true, lim dd) := kInt_mk hso (Offs.fresh hpv fun r hr => by rw [List.append_nil] at hr; exact (hvr r (by simpa using hr)).2)
        have HOWN := Alg.hid hown
        have HGR := Alg.hid (fun w9 gg cc (o : Obj) h1 h2 h3 => hgrow w1 w9 [.bool true, .slice oa on on] (true, lim dd) o gg cc (Below.refl _ _) hkk h1 h2 h3)
        have Q2 : Hid (∀ u ∈ [.bool true, .slice oa on on], Value.oneCell' u = true) := kInt.cells hkk
        clear hown hgrow hkk hG1 hso hpv hG hvr d0 d1 c1
        go_wp2_with (first | (at_builtin; refine wpList_append_lies _ rfl _ _ 62 rfl (w.heap.size + 1) 25 ii _ 2 32 Tryd.underlying62 HI.out HQ0.out HQ1.out HQ2.out rfl (by decide) _ k xs rfl (HOWN.out.alloc _) ⟨w1.heap.size, 0, none⟩ 1 1 [.bool true, .slice oa on on] rfl rfl news_two Q2.out Nat.one_pos t1 t2 (Nat.le_trans hsz (size_le_alloc _ _)) (w1.heap.size + 1) (World.size_alloc _ _) ?_; intro gg cc w9 hown9 hgrow9 hat9 hlt9; have hG9 := Alg.hid (HGR.out w9 gg cc _ hown9 hgrow9 hat9); have hx9 := Alg.hid ((hx1.out.alloc_any _).grown hgrow9 (fun q e => by have := (hvr1 q e).1; simp only [List.length_cons, List.length_nil]; omega))) | fail)
        rw [← hTK.out] at hG9
        go_roundw
        case rel => exact ⟨k + 1, _, rfl, by go_num, by omega, hG9, hx9⟩
        case measure => simp [intOf]; omega
      · have hs1 : ¬ (cc0 : Int) > (p : Int) / 2 := by omega
        have hsy : symC p cc0 = (false, lim cc0) := by unfold symC; rw [if_neg hs]
        rw [hsy] at hTK
        clear hsy
        go_wp2_with fail
        refine (whole_Of_nat cc0 wr (by omega)).mono ?_
        rw [limbs_lim (by omega)]
        rintro e w1 ⟨oa, on, rfl, hso, hb1, hpv⟩
        have hG1 := hG.out.mono hb1
        have hx1 := Alg.hid (hx.out.mono hb1)
        have hsz : w.heap.size + 1 ≤ w1.heap.size := Nat.le_trans hsz0 hb1.size
        obtain ⟨xs, hown, hgrow⟩ := hG1.grow
        have hvr := hG.out.row
        have hvr1 := hG1.row
        have hkk : kInt.ok w1 (vv.ownBlock.toList ++ []) [.bool false, .slice oa on on] (false, lim cc0) := kInt_mk hso (Offs.fresh hpv fun r hr => by rw [List.append_nil] at hr; exact (hvr r (by simpa using hr)).2)
        have HOWN := Alg.hid hown
        have HGR := Alg.hid (fun w9 gg cc (o : Obj) h1 h2 h3 => hgrow w1 w9 [.bool false, .slice oa on on] (false, lim cc0) o gg cc (Below.refl _ _) hkk h1 h2 h3)
        have Q2 : Hid (∀ u ∈ [.bool false, .slice oa on on], Value.oneCell' u = true) := kInt.cells hkk
        clear hown hgrow hkk hG1 hso hpv hG hvr d0 d1 c1
        go_wp2_with (first | (at_builtin; refine wpList_append_lies _ rfl _ _ 62 rfl (w.heap.size + 1) 25 ii _ 2 32 Tryd.underlying62 HI.out HQ0.out HQ1.out HQ2.out rfl (by decide) _ k xs rfl (HOWN.out.alloc _) ⟨w1.heap.size, 0, none⟩ 1 1 [.bool false, .slice oa on on] rfl rfl news_two Q2.out Nat.one_pos t1 t2 (Nat.le_trans hsz (size_le_alloc _ _)) (w1.heap.size + 1) (World.size_alloc _ _) ?_; intro gg cc w9 hown9 hgrow9 hat9 hlt9; have hG9 := Alg.hid (HGR.out w9 gg cc _ hown9 hgrow9 hat9); have hx9 := Alg.hid ((hx1.out.alloc_any _).grown hgrow9 (fun q e => by have := (hvr1 q e).1; simp only [List.length_cons, List.length_nil]; omega))) | fail)
        rw [← hTK.out] at hG9
        go_roundw
        case rel => exact ⟨k + 1, _, rfl, by go_num, by omega, hG9, hx9⟩
        case measure => simp [intOf]; omega
    · obtain rfl : k = fn := by omega
      have hkn' : ¬ (k : Int) < (k : Int) := by omega
      have hGo := hG.out
      rw [List.take_of_length_le (by simp only [zsymL, List.length_map]; omega)] at hGo
      obtain ⟨va, vc, rfl, hsl, _⟩ := hGo.sl
      have hxx := hx.out.below
      clear hG hGo
      go_wp2
      go_ret
      exact ⟨_, _, _, rfl, hsl, hxx⟩
set_option maxRecDepth 100000 in
set_option maxHeartbeats 400000 in
theorem ref_Sym (p : Nat) (fa : Option Addr) (fn fcap : Nat) (fl : List Nat) (w : World) (hf : Sl w fa fn fcap fl) (hfn : fn ≤ 100000) (hp : p < 4294967296) (hc : ∀ i, nth fl i < p) :
    Calls Tryd.prog 68 #[.agg #[.int .u32 (p : Int), .slice fa fn fcap]] w (RetZ (zsymL p fl) w) := by
  obtain ⟨ii, hi, hz0, hz1, hz2⟩ := info_parts Tryd.infoI
  have HI := Alg.hid hi
  have HQ0 := Alg.hid hz0
  have HQ1 := Alg.hid hz1
  have HQ2 := Alg.hid hz2
  have HC := Alg.hid hc
  clear hi hz0 hz1 hz2 hc
  have lf := hf.len
  have lef := hf.le
  have lcf := hf.cap
  have hbx := boxes1 w #[.int .u32 (p : Int), .slice fa fn fcap] 47
  go_enter Tryd.func68, Tryd.ntmps68
  go_upto_region 1 with fail
  generalize hW0 : w.alloc (.cells #[.int .u32 (p : Int), .slice fa fn fcap] 47) = W0 at hbx ⊢
  clear hW0
  have K : Hid (∀ W, Boxes w W [#[.int .u32 (p : Int), .slice fa fn fcap]] → W.cell? ⟨w.heap.size, 0, none⟩ = some (.int .u32 (p : Int)) ∧ W.cell? ⟨w.heap.size, 1, none⟩ = some (.slice fa fn fcap)) := fun W h => ⟨h.cell' 0 0 _ _ rfl rfl, h.cell' 0 1 _ _ rfl rfl⟩
  obtain ⟨d0, d1⟩ := K.out W0 hbx
  have HX0 := Alg.hid hbx
  go_wp2
  go_loopw [3, 4] (fun v i wr => ∃ k : Nat, ∃ vv : Value, vv = v ∧ i = .int .i64 k ∧ k ≤ fn ∧ Hid (GrK kInt wr 25 (w.heap.size + 1) [] vv k ((zsymL p fl).take k)) ∧ Hid (Boxes w wr [#[.int .u32 (p : Int), .slice fa fn fcap]])) (fun _ i _ => fn - (intOf i).toNat)
  case atStart => exact ⟨0, .slice none 0 0, rfl, rfl, Nat.zero_le _, by rw [List.take_zero]; exact GrK.nil _ _ _ _ _, HX0⟩
  case round =>
    clear HX0 d0 d1 hbx
    obtain ⟨k, vv, rfl, rfl, hk, hG, hx⟩ := hrel
    obtain ⟨d0, d1⟩ := K.out wr hx.out
    by_cases hkn : k < fn
    · have hkn' : (k : Int) < (fn : Int) := by omega
      have hk0 : (0 : Int) ≤ (k : Int) := by omega
      rcases hf.rd with h | ⟨b, off, rfl, hcf⟩
      · omega
      have c1 : wr.cell? ⟨b, off + k, none⟩ = some (.int .u32 (nth fl k : Nat)) := (hx.out.below.cell (p := ⟨b, off + k, none⟩) (cell_lt (hcf k hkn))).trans (hcf k hkn)
      have hcb := hcf k hkn
      clear hcf
      have hcl := HC.out k
      have hTK : Hid ((zsymL p fl).take (k + 1) = (zsymL p fl).take k ++ [symC p (nth fl k)]) := by show _ = _; exact take_mapz _ fl k (by omega)
      obtain ⟨cc0, hcc⟩ : ∃ c, c = nth fl k := ⟨_, rfl⟩
      rw [← hcc] at c1 hcl hTK
      clear hcc
      have t1 : k + 1 ≤ maxLen := by unfold maxLen; omega
      have t2 : (k + 1) * 32 ≤ 140737488355328 := by omega
      have hsz0 : w.heap.size + 1 ≤ wr.heap.size := hx.out.size
      obtain ⟨M, hM⟩ : ∃ M, M = cc0 * 2 := ⟨_, rfl⟩
      have m1 : (cc0 : Int) * 2 = (M : Int) := by rw [hM]; simp
      have m2 : IntKind.u64.wrap (M : Int) = (M : Int) := IntWalk.u64_in _ (by omega)
      have m3 : IntKind.u64.wrap (cc0 : Int) = (cc0 : Int) := IntWalk.u64_in _ (by omega)
      have m4 : IntKind.u64.wrap (p : Int) = (p : Int) := IntWalk.u64_in _ (by omega)
      have hMc : p < M ↔ p < 2 * cc0 := by omega
      have HB : Hid (b < w.heap.size) := cell_lt hcb
      clear hM
      have hxq := Alg.hid hx.out.drew
      have hGq := Alg.hid (hG.out.mono (bdrew (Below.refl _ wr)))
      have hsq : w.heap.size + 1 ≤ wr.drew.heap.size := hsz0
      have hbl := HB.out
      have KR : Hid (∀ W, Below wr.drew.heap.size wr.drew W → W.cell? ⟨w.heap.size, 0, none⟩ = some (.int .u32 (p : Int)) ∧ W.cell? ⟨w.heap.size, 1, none⟩ = some (.slice (some ⟨b, off, none⟩) fn fcap) ∧ W.cell? ⟨b, off + k, none⟩ = some (.int .u32 (cc0 : Int))) := fun W h => ⟨(K.out W (hxq.out.mono h)).1, (K.out W (hxq.out.mono h)).2, (h.cell (p := ⟨b, off + k, none⟩) (cell_lt c1)).trans c1⟩
      have hR0 : Below wr.drew.heap.size wr.drew wr.drew := Below.refl _ _
      go_upto_region 5 with fail
      clear d0 d1 c1
      by_cases hs : p < M
      · have hs1 : (M : Int) > (p : Int) := by omega
        refine wp_region_noPanic ?_
        refine wp_region_held2 10 [(1, 0), (1, 1), (1, 2), (1, 3), (1, 4), (1, 5), (1, 6), (1, 7), (1, 8), (1, 9), (3, 10)] (fun W => W.cell? ⟨w.heap.size, 0, none⟩ = some (.int .u32 (p : Int)) ∧ W.cell? ⟨w.heap.size, 1, none⟩ = some (.slice (some ⟨b, off, none⟩) fn fcap) ∧ W.cell? ⟨b, off + k, none⟩ = some (.int .u32 (cc0 : Int))) (fun _ => True) (by kernel_rfl) (by kernel_rfl) (fun _ _ _ _ _ h => h) (fun _ _ => trivial) (KR.out _ hR0) (fun _ => ?_)
        simp only [pick2, List.getElem?_cons_succ, List.getElem?_cons_zero]
        iterate 10
          (refine held2_early (v := ?_) (by rfl) ?_ ?_
           rotate_left
           · intro W hSw; (try dsimp only at hSw); go_simp; (try with_reducible rfl)
           try simp only [Act.put, List.setIfInBounds_toArray, List.set_cons_zero, List.set_cons_succ])
        refine held2_store (fun K' hK => ?_)
        go_simp
        refine hK.out _ _ trivial (fun _ => ?_)
        clear hK K'
        try simp only [Act.put, List.setIfInBounds_toArray, List.set_cons_zero, List.set_cons_succ]
        refine held2_nil ?_
        refine NoPanic.normal ?_
        have KQ0 := KR.out _ hR0
        clear KR hR0 hx hG hsz0
        generalize wr.drew = wq at hxq hGq hsq KQ0 ⊢
        have KQ : Hid (∀ W, Below wq.drew.heap.size wq.drew W → W.cell? ⟨w.heap.size, 0, none⟩ = some (.int .u32 (p : Int)) ∧ W.cell? ⟨w.heap.size, 1, none⟩ = some (.slice (some ⟨b, off, none⟩) fn fcap) ∧ W.cell? ⟨b, off + k, none⟩ = some (.int .u32 (cc0 : Int))) := fun W h => ⟨(K.out W (hxq.out.drew.mono h)).1, (K.out W (hxq.out.drew.mono h)).2, ((btrans (bdrew (Below.refl _ wq)) h).cell (p := ⟨b, off + k, none⟩) (cell_lt KQ0.2.2)).trans KQ0.2.2⟩
        have hQ0 : Below wq.drew.heap.size wq.drew wq.drew := Below.refl _ _
        obtain ⟨dd, hdd⟩ : ∃ d, d = p - cc0 := ⟨_, rfl⟩
        have hd1 : (p : Int) - (cc0 : Int) = (dd : Int) := by omega
        have hw3 : IntKind.u32.wrap (dd : Int) = (dd : Int) := IntWalk.u32_in _ (by omega)
        have hsy : symC p cc0 = (true, lim dd) := by unfold symC; rw [if_pos (hMc.1 hs), hdd]
        rw [hsy] at hTK
        have hdb : 0 < dd ∧ dd < 4294967296 := by omega
        obtain ⟨d0, d1, c1⟩ := KQ0
        clear hsy hdd m1 m2 m3 m4 hMc hs1
        go_upto_region 6 with fail
        clear d0 d1 c1
        refine wp_region_noPanic ?_
        refine wp_region_held2 12 [(1, 0), (1, 1), (1, 2), (1, 3), (1, 4), (1, 5), (1, 6), (1, 7), (1, 8), (0, 9), (0, 10), (0, 11), (3, 12)] (fun W => W.cell? ⟨w.heap.size, 0, none⟩ = some (.int .u32 (p : Int)) ∧ W.cell? ⟨w.heap.size, 1, none⟩ = some (.slice (some ⟨b, off, none⟩) fn fcap) ∧ W.cell? ⟨b, off + k, none⟩ = some (.int .u32 (cc0 : Int))) (fun _ => True) (by kernel_rfl) (by kernel_rfl) (fun _ _ _ _ _ h => h) (fun _ _ => trivial) (KQ.out _ hQ0) (fun _ => ?_)
        simp only [pick2, List.getElem?_cons_succ, List.getElem?_cons_zero]
        iterate 9
          (refine held2_early (v := ?_) (by rfl) ?_ ?_
           rotate_left
           · intro W hSw; (try dsimp only at hSw); go_simp; (try with_reducible rfl)
           try simp only [Act.put, List.setIfInBounds_toArray, List.set_cons_zero, List.set_cons_succ])
        refine held2_loud (fun K' hK => ?_)
        go_simp
        refine (ref_smallZ true dd wq.drew hdb.2).mono ?_
        rintro e w1 ⟨oa, on, oc, rfl, hso, hb1, hpv⟩
        have hon : 0 < on := by rw [← hso.len]; exact List.length_pos_iff.2 (lim_ne (by omega))
        rw [sg_t1 hon]
        have r1 := hb1
        have hbq := btrans (bdrew (Below.refl _ wq)) hb1
        have hG1 := hGq.out.mono hbq
        have hx1 := Alg.hid (hxq.out.mono hbq)
        have hsz : w.heap.size + 1 ≤ w1.heap.size := Nat.le_trans hsq hbq.size
        obtain ⟨xs, hown, hgrow⟩ := hG1.grow
        have hvr := hGq.out.row
        have hvr1 := hG1.row
        have hkk : kInt.ok w1 (vv.ownBlock.toList ++ []) [.bool true, .slice oa on oc] (true, lim dd) := kInt_mk hso (Offs.fresh hpv fun r hr => by rw [List.append_nil] at hr; exact (hvr r (by simpa using hr)).2)
        have HOWN := Alg.hid hown
        have HGR := Alg.hid (fun w9 gg cc (o : Obj) h1 h2 h3 => hgrow w1 w9 [.bool true, .slice oa on oc] (true, lim dd) o gg cc (Below.refl _ _) hkk h1 h2 h3)
        have Q2 : Hid (∀ u ∈ [.bool true, .slice oa on oc], Value.oneCell' u = true) := kInt.cells hkk
        clear hown hgrow hkk hG1 hso hpv hvr
        refine hK.out _ _ (KQ.out _ r1) (fun _ => ?_)
        clear hK K'
        try simp only [Act.put, List.setIfInBounds_toArray, List.set_cons_zero, List.set_cons_succ]
        refine held2_loud (fun K' hK => ?_)
        go_simp
        have r2 : Below wq.drew.heap.size wq.drew (w1.alloc (.cells #[.bool true, .slice oa on oc] 25)) := r1.alloc r1.size _
        refine hK.out _ _ (KQ.out _ r2) (fun _ => ?_)
        clear hK K'
        try simp only [Act.put, List.setIfInBounds_toArray, List.set_cons_zero, List.set_cons_succ]
        refine held2_loud (fun K' hK => ?_)
        refine step_append_lies _ (by rfl) _ _ 62 (by rfl) (w.heap.size + 1) 25 ii _ 2 32 Tryd.underlying62 HI.out HQ0.out HQ1.out HQ2.out rfl (by decide) _ k xs (by rfl) (HOWN.out.alloc _) ⟨w1.heap.size, 0, none⟩ 1 1 [.bool true, .slice oa on oc] (by rfl) (by rfl) news_two Q2.out Nat.one_pos t1 t2 (Nat.le_trans hsz (size_le_alloc _ _)) (w1.heap.size + 1) (World.size_alloc _ _) ?_
        intro gg cc w9 hown9 hgrow9 hat9 hlt9
        have hG9 := Alg.hid (HGR.out w9 gg cc _ hown9 hgrow9 hat9)
        have hx9 := Alg.hid ((hx1.out.alloc_any _).grown hgrow9 (fun q e => by have := (hvr1 q e).1; simp only [List.length_cons, List.length_nil]; omega))
        obtain ⟨j0, j1⟩ := K.out w9 hx9.out
        have j2 : w9.cell? ⟨b, off + k, none⟩ = some (.int .u32 (cc0 : Int)) := hgrow9.cell ((r2.cell (cell_lt (KQ.out _ hQ0).2.2)).trans (KQ.out _ hQ0).2.2) (fun e => by have := (hvr1 b e.symm).1; omega)
        refine hK.out _ _ (⟨j0, j1, j2⟩) (fun _ => ?_)
        clear hK K'
        try simp only [Act.put, List.setIfInBounds_toArray, List.set_cons_zero, List.set_cons_succ]
        refine held2_store (fun K' hK => ?_)
        go_simp
        refine hK.out _ _ trivial (fun _ => ?_)
        clear hK K'
        try simp only [Act.put, List.setIfInBounds_toArray, List.set_cons_zero, List.set_cons_succ]
        refine held2_nil ?_
        refine NoPanic.normal ?_
        go_wp2
        rw [← hTK.out] at hG9
        go_roundw
        case rel => exact ⟨k + 1, _, rfl, by go_num, by omega, hG9, hx9⟩
        case measure => simp [intOf]; omega
      · have hs1 : ¬ (M : Int) > (p : Int) := by omega
        refine wp_region_noPanic ?_
        refine wp_region_held2 10 [(1, 0), (1, 1), (1, 2), (1, 3), (1, 4), (1, 5), (1, 6), (1, 7), (1, 8), (1, 9), (3, 10)] (fun W => W.cell? ⟨w.heap.size, 0, none⟩ = some (.int .u32 (p : Int)) ∧ W.cell? ⟨w.heap.size, 1, none⟩ = some (.slice (some ⟨b, off, none⟩) fn fcap) ∧ W.cell? ⟨b, off + k, none⟩ = some (.int .u32 (cc0 : Int))) (fun _ => True) (by kernel_rfl) (by kernel_rfl) (fun _ _ _ _ _ h => h) (fun _ _ => trivial) (KR.out _ hR0) (fun _ => ?_)
        simp only [pick2, List.getElem?_cons_succ, List.getElem?_cons_zero]
        iterate 10
          (refine held2_early (v := ?_) (by rfl) ?_ ?_
           rotate_left
           · intro W hSw; (try dsimp only at hSw); go_simp; (try with_reducible rfl)
           try simp only [Act.put, List.setIfInBounds_toArray, List.set_cons_zero, List.set_cons_succ])
        refine held2_store (fun K' hK => ?_)
        go_simp
        refine hK.out _ _ trivial (fun _ => ?_)
        clear hK K'
        try simp only [Act.put, List.setIfInBounds_toArray, List.set_cons_zero, List.set_cons_succ]
        refine held2_nil ?_
        refine NoPanic.normal ?_
        have KQ0 := KR.out _ hR0
        clear KR hR0 hx hG hsz0
        generalize wr.drew = wq at hxq hGq hsq KQ0 ⊢
        have hsy : symC p cc0 = (false, lim cc0) := by unfold symC; rw [if_neg (fun h => hs (hMc.2 h))]
        rw [hsy] at hTK
        obtain ⟨d0, d1, c1⟩ := KQ0
        clear hsy m1 m2 m3 m4 hMc hs1 hs
        go_wp2_with fail
        refine (ref_smallZ false cc0 wq (by omega)).mono ?_
        rintro e w1 ⟨oa, on, oc, rfl, hso, hb1, hpv⟩
        rw [sg_f]
        clear d0 d1 c1
        have hG1 := hGq.out.mono hb1
        have hx1 := Alg.hid (hxq.out.mono hb1)
        have hsz : w.heap.size + 1 ≤ w1.heap.size := Nat.le_trans hsq hb1.size
        obtain ⟨xs, hown, hgrow⟩ := hG1.grow
        have hvr := hGq.out.row
        have hvr1 := hG1.row
        have hkk : kInt.ok w1 (vv.ownBlock.toList ++ []) [.bool false, .slice oa on oc] (false, lim cc0) := kInt_mk hso (Offs.fresh hpv fun r hr => by rw [List.append_nil] at hr; exact (hvr r (by simpa using hr)).2)
        have HOWN := Alg.hid hown
        have HGR := Alg.hid (fun w9 gg cc (o : Obj) h1 h2 h3 => hgrow w1 w9 [.bool false, .slice oa on oc] (false, lim cc0) o gg cc (Below.refl _ _) hkk h1 h2 h3)
        have Q2 : Hid (∀ u ∈ [.bool false, .slice oa on oc], Value.oneCell' u = true) := kInt.cells hkk
        clear hown hgrow hkk hG1 hso hpv hGq hvr
        go_wp2_with (first | (at_builtin; refine wpList_append_lies _ rfl _ _ 62 rfl (w.heap.size + 1) 25 ii _ 2 32 Tryd.underlying62 HI.out HQ0.out HQ1.out HQ2.out rfl (by decide) _ k xs rfl (HOWN.out.alloc _) ⟨w1.heap.size, 0, none⟩ 1 1 [.bool false, .slice oa on oc] rfl rfl news_two Q2.out Nat.one_pos t1 t2 (Nat.le_trans hsz (size_le_alloc _ _)) (w1.heap.size + 1) (World.size_alloc _ _) ?_; intro gg cc w9 hown9 hgrow9 hat9 hlt9; have hG9 := Alg.hid (HGR.out w9 gg cc _ hown9 hgrow9 hat9); have hx9 := Alg.hid ((hx1.out.alloc_any _).grown hgrow9 (fun q e => by have := (hvr1 q e).1; simp only [List.length_cons, List.length_nil]; omega))) | fail)
        rw [← hTK.out] at hG9
        go_roundw
        case rel => exact ⟨k + 1, _, rfl, by go_num, by omega, hG9, hx9⟩
        case measure => simp [intOf]; omega
    · obtain rfl : k = fn := by omega
      have hkn' : ¬ (k : Int) < (k : Int) := by omega
      have hGo := hG.out
      rw [List.take_of_length_le (by simp only [zsymL, List.length_map]; omega)] at hGo
      obtain ⟨va, vc, rfl, hsl, _⟩ := hGo.sl
      have hxx := hx.out.below
      clear hG hGo
      go_wp2
      go_ret
      exact ⟨_, _, _, rfl, hsl, hxx⟩
end Go.Proofs.YtbnjmeeaaieicaaDoor
