/- Contracts of layer 15's small functions, of the program and of the reference: is it monic; the polynomials 1 and x. Contracts of layer 15: the rest of x^(p^k) - x, of the program and of the reference. -/
import Derived.Test.YtcbhoedifgghhaaDoorE0
import Derived.Test.YtcbhoedifgghhaaDoorA20
import Derived.Test.YtcbhoedifgghhaaDoorA23
import Derived.Test.YtcbhoedifgghhaaDoorW49
import Derived.Test.YtcbhoedifgghhaaDoorHH
import Derived.Test.YtcbhoedifgghhaaDoorW46
section
open Alg Go Go.RowKit
namespace Alg
/-- is it monic? -/
def monB (l : List Nat) : Bool := decide (0 < l.length) && decide (nth l (l.length - 1) = 1)
theorem monB_true {l : List Nat} : monB l = true ↔ 0 < l.length ∧ nth l (l.length - 1) = 1 := by simp [monB]
theorem sl_1c (W : World) (T : TypeId) {b : Nat} (h : b = W.heap.size) : Sl (W.alloc (.cells #[.int .u32 1] T)) (some ⟨b, 0, none⟩) 1 1 [1] := by
  subst h
  refine ⟨rfl, Nat.le_refl _, by omega, fun i => ?_, Or.inr ⟨_, _, rfl, fun i hi => ?_⟩⟩
  · match i with
    | 0 => decide
    | i + 1 => show ([] : List Nat).getD i 0 < _; simp
  · rw [cell_box]
    match i, hi with
    | 0, _ => rfl
theorem sl_01 (W : World) (T : TypeId) {b : Nat} (h : b = W.heap.size) : Sl (W.alloc (.cells #[.int .u32 0, .int .u32 1] T)) (some ⟨b, 0, none⟩) 2 2 [0, 1] := by
  subst h
  refine ⟨rfl, Nat.le_refl _, by omega, fun i => ?_, Or.inr ⟨_, _, rfl, fun i hi => ?_⟩⟩
  · match i with
    | 0 => decide
    | 1 => decide
    | i + 2 => show ([] : List Nat).getD i 0 < _; simp
  · rw [cell_box]
    match i, hi with
    | 0, _ => rfl
    | 1, _ => rfl
end Alg
namespace Go.Proofs.YtcbhoedifgghhaaDoor
open Go.RowKit
theorem deg_monic (p : Int) (fa : Option Addr) (fn fcap : Nat) (fl : List Nat) (w : World) (hf : Sl w fa fn fcap fl) :
    Calls Tryd.prog 53 #[.agg #[.int .u32 p, .slice fa fn fcap]] w fun e w' => e = .returned (.bool (monB fl)) ∧ Below w.heap.size w w' := by
  have hle := hf.le
  have hcap := hf.cap
  have hlen := hf.len
  by_cases n0 : fn = 0
  · have hz : monB fl = false := by
      unfold monB; rw [hlen, n0]; rfl
    rw [hz]
    clear hlen hz
    subst n0
    go_enter Tryd.func53, Tryd.ntmps53
    go_wp2
    go_ret
    exact ⟨rfl, by go_grown⟩
  · rcases hf.rd with h0 | ⟨b, off, rfl, hc⟩
    · omega
    have hc1 := hc (fn - 1) (by omega)
    have hb : b < w.heap.size := cell_lt hc1
    clear hc
    have hpos : (0 : Int) < (fn : Int) := by omega
    have hz : monB fl = decide (nth fl (fn - 1) = 1) := by
      unfold monB; rw [hlen, decide_eq_true (by omega : 0 < fn), Bool.true_and]
    rw [hz]
    clear hlen hz
    by_cases h1 : nth fl (fn - 1) = 1
    · have h2 : ((nth fl (fn - 1) : Int) == 1) = true := by rw [h1]; rfl
      rw [decide_eq_true h1]
      clear h1
      go_enter Tryd.func53, Tryd.ntmps53
      go_wp2
      go_ret
      exact ⟨rfl, by go_grown⟩
    · have h2 : ((nth fl (fn - 1) : Int) == 1) = false := by
        rw [beq_eq_false_iff_ne]; omega
      rw [decide_eq_false h1]
      clear h1
      go_enter Tryd.func53, Tryd.ntmps53
      go_wp2
      go_ret
      exact ⟨rfl, by go_grown⟩
theorem ref15_IsMonic (p : Int) (fa : Option Addr) (fn fcap : Nat) (fl : List Nat) (w : World) (hf : Sl w fa fn fcap fl) :
    Calls Tryd.prog 19 #[.agg #[.int .u32 p, .slice fa fn fcap]] w fun e w' => e = .returned (.bool (monB fl)) ∧ Below w.heap.size w w' := by
  have hle := hf.le
  have hcap := hf.cap
  have hlen := hf.len
  by_cases n0 : fn = 0
  · have hz : monB fl = false := by
      unfold monB; rw [hlen, n0]; rfl
    rw [hz]
    clear hlen hz
    subst n0
    go_enter Tryd.func19, Tryd.ntmps19
    go_wp2
    go_ret
    exact ⟨rfl, by go_grown⟩
  · rcases hf.rd with h0 | ⟨b, off, rfl, hc⟩
    · omega
    have hc1 := hc (fn - 1) (by omega)
    have hb : b < w.heap.size := cell_lt hc1
    clear hc
    have hpos : (0 : Int) < (fn : Int) := by omega
    have hz : monB fl = decide (nth fl (fn - 1) = 1) := by
      unfold monB; rw [hlen, decide_eq_true (by omega : 0 < fn), Bool.true_and]
    rw [hz]
    clear hlen hz
    by_cases h1 : nth fl (fn - 1) = 1
    · have h2 : ((nth fl (fn - 1) : Int) == 1) = true := by rw [h1]; rfl
      rw [decide_eq_true h1]
      clear h1
      go_enter Tryd.func19, Tryd.ntmps19
      go_wp2
      go_ret
      exact ⟨rfl, by go_grown⟩
    · have h2 : ((nth fl (fn - 1) : Int) == 1) = false := by
        rw [beq_eq_false_iff_ne]; omega
      rw [decide_eq_false h1]
      clear h1
      go_enter Tryd.func19, Tryd.ntmps19
      go_wp2
      go_ret
      exact ⟨rfl, by go_grown⟩
set_option maxHeartbeats 400000 in
theorem deg_unit (p : Nat) (w : World) : Calls Tryd.prog 73 #[.int .u32 (p : Int)] w (RetP p [1] [] w) := by
  go_enter Tryd.func73, Tryd.ntmps73
  go_wp2
  (try simp only [Exit.inBlock, Exit.then])
  refine bodyPost_ret (v := .agg #[.int .u32 (p : Int), .slice (some ⟨w.heap.size + 1, 0, none⟩) 1 1]) (by simp [results, Tryd.results73, go_sem]) rfl ?_
  exact ⟨_, _, _, rfl, sl_1c _ _ (by rw [World.size_alloc]), by go_grown, Or.inr (Or.inr ⟨_, _, _, rfl, by omega⟩)⟩
set_option maxHeartbeats 400000 in
theorem deg_x (p : Nat) (w : World) : Calls Tryd.prog 89 #[.int .u32 (p : Int)] w (RetP p [0, 1] [] w) := by
  go_enter Tryd.func89, Tryd.ntmps89
  go_wp2
  (try simp only [Exit.inBlock, Exit.then])
  refine bodyPost_ret (v := .agg #[.int .u32 (p : Int), .slice (some ⟨w.heap.size + 1, 0, none⟩) 2 2]) (by simp [results, Tryd.results89, go_sem]) rfl ?_
  exact ⟨_, _, _, rfl, sl_01 _ _ (by rw [World.size_alloc]), by go_grown, Or.inr (Or.inr ⟨_, _, _, rfl, by omega⟩)⟩
set_option maxHeartbeats 400000 in
theorem ref15_X (p : Nat) (w : World) : Calls Tryd.prog 93 #[.int .u32 (p : Int)] w (RetP p [0, 1] [] w) := by
  go_enter Tryd.func93, Tryd.ntmps93
  go_wp2
  (try simp only [Exit.inBlock, Exit.then])
  refine bodyPost_ret (v := .agg #[.int .u32 (p : Int), .slice (some ⟨w.heap.size + 1, 0, none⟩) 2 2]) (by simp [results, Tryd.results93, go_sem]) rfl ?_
  exact ⟨_, _, _, rfl, sl_01 _ _ (by rw [World.size_alloc]), by go_grown, Or.inr (Or.inr ⟨_, _, _, rfl, by omega⟩)⟩
end Go.Proofs.YtcbhoedifgghhaaDoor
end
section
open Alg Go Go.RowKit
namespace Go.Proofs.YtcbhoedifgghhaaDoor
open Go.RowKit
set_option maxRecDepth 100000 in
set_option maxHeartbeats 900000 in
theorem deg_rest (p : Nat) (fa : Option Addr) (fn fcap : Nat) (fl : List Nat) (k : Nat) (w : World) (hf : Sl w fa fn fcap fl) (hpr : IsPr p) (hp : p < 4294967296) (cf : Canon p fl) (hf0 : 0 < fn) (hfn : fn ≤ 1000000) (hk : k ≤ 1000) :
    Calls Tryd.prog 70 #[.agg #[.int .u32 (p : Int), .slice fa fn fcap], .int .i64 (k : Int)] w (RetP p (apL p fl k) [] w) := by
  haveI hne : NeZero p := ⟨by have := hpr.1; omega⟩
  have hp1 : 1 < p := hpr.1
  have hp0 : 0 < p := by omega
  have hfl : fl ≠ [] := fun e => by have := hf.len; rw [e] at this; simp at this; omega
  have eg := hf.len
  have hlead : nth fl (fn - 1) ≠ 0 := by
    rcases cf.top with h | h
    · exact absurd h hfl
    · rw [← eg]; exact h
  have HLEAD := Alg.hid hlead
  have HX := Alg.hid (canon_x hpr)
  have FO := Alg.hid (frobL_ok hpr HX.out cf hfl k).canon
  have FL := (frobL_ok hpr HX.out cf hfl k).len
  rw [eg] at FL
  have SO := Alg.hid (sbL_ok (p := p) (frobL p [0, 1] fl k) [0, 1] (fun i => canon_le HX.out i)).2
  have SL := sbL_len p (frobL p [0, 1] fl k) [0, 1]
  have SL2 : ([0, 1] : List Nat).length = 2 := rfl
  rw [SL2] at SL
  have RO := Alg.hid (apL_md hpr cf hfl k).canon
  have DO := Alg.hid (divL_ok hpr (sbL p (frobL p [0, 1] fl k) [0, 1]) fl SO.out cf hfl)
  clear hlead eg SL2 hfl
  have hbx := boxes2 w #[.int .u32 (p : Int), .slice fa fn fcap] #[.int .u32 0, .slice none 0 0] 25 25
  go_enter Tryd.func70, Tryd.ntmps70
  go_upto_region 1 with fail
  generalize hW0 : ((w.alloc (.cells #[.int .u32 (p : Int), .slice fa fn fcap] 25)).alloc (.cells #[.int .u32 0, .slice none 0 0] 25)) = W0 at hbx ⊢
  clear hW0
  have hfS := (hf.mono hbx.below).drew
  have KR : Hid (∀ W, Below W0.drew.heap.size W0.drew W → W.cell? ⟨w.heap.size, 0, none⟩ = some (.int .u32 (p : Int)) ∧ W.cell? ⟨w.heap.size, 1, none⟩ = some (.slice fa fn fcap)) := fun W h => ⟨(hbx.drew.mono h).cell' 0 0 _ _ rfl rfl, (hbx.drew.mono h).cell' 0 1 _ _ rfl rfl⟩
  refine wp_region_layE [(10, 8)] 10 [(true, 0), (true, 1), (true, 3), (true, 4), (false, 2), (false, 5), (true, 6), (true, 7), (true, 8)] [⟨9, 5, #[.int .u32 0, .slice none 0 0], 25⟩] (by kernel_rfl) (by kernel_rfl) (by kernel_rfl) (fun x hx o ho ρ W => ?_) (fun v0 hv0 => ?_)
  · simp only [List.mem_cons, List.not_mem_nil, or_false] at hx
    subst hx
    all_goals (obtain rfl := Option.some.inj ho; go_simp)
  simp only [pick, List.getElem?_cons_succ, List.getElem?_cons_zero]
  iterate 4
    (refine heldR_quiet (v := ?_) (by rfl) ?_ ?_
     rotate_left
     · intro W hW; obtain ⟨d0, d1⟩ := KR.out W hW; go_simp; (try with_reducible rfl)
     try simp only [Act.put, List.setIfInBounds_toArray, List.set_cons_zero, List.set_cons_succ])
  refine heldR_loud (fun K' hK => ?_)
  go_simp
  refine (deg_x p v0).mono ?_
  rintro e vA ⟨u1, n1, cc1, rfl, hsA, hbA, _⟩
  refine hK.out _ _ (hbA) (fun v1 hv1 => ?_)
  clear hK K'
  have rv1 := (hv0.tr hbA).tr hv1
  have hsA1 := hsA.mono hv1
  have lsA := hsA1.len
  have lsA2 : n1 = 2 := lsA.symm
  subst lsA2
  try simp only [Act.put, List.setIfInBounds_toArray, List.set_cons_zero, List.set_cons_succ]
  refine heldR_loud (fun K' hK => ?_)
  go_simp
  refine (ppoly_Frob p u1 2 cc1 [0, 1] fa fn fcap fl k v1 hsA1 (hfS.mono rv1) hpr hp HX.out cf hf0 (by omega) (by omega) hk).mono ?_
  rintro e vB ⟨ra, rn, rc, rfl, hY, hbB, _⟩
  refine hK.out _ _ (hbB) (fun v2 hv2 => ?_)
  clear hK K'
  have rv2 := (rv1.tr hbB).tr hv2
  have hY2 := hY.mono hv2
  try simp only [Act.put, List.setIfInBounds_toArray, List.set_cons_zero, List.set_cons_succ]
  iterate 3
    (refine heldR_quiet (v := ?_) (by rfl) ?_ ?_
     rotate_left
     · intro W hW; obtain ⟨d0, d1⟩ := KR.out W hW; go_simp; (try with_reducible rfl)
     try simp only [Act.put, List.setIfInBounds_toArray, List.set_cons_zero, List.set_cons_succ])
  refine heldR_nil ?_
  intro bl wz hRz hSz hGz
  obtain ⟨b9, hact, hb9, ho9⟩ := good1 hSz hGz
  rw [hact]
  have rvz := rv2.tr hRz
  have hYz := hY2.mono hRz
  have of9 := off_new ho9 hYz FO.out
  have xb9 := box_of_obj ho9
  have g90 := xb9.cell 0 _ rfl
  have g91 := xb9.cell 1 _ rfl
  have z90 := xb9.frozen 0
  have z91 := xb9.frozen 1
  simp only [List.drop_succ_cons, List.drop_zero]
  (try simp only [Act.put, List.setIfInBounds_toArray, List.set_cons_zero, List.set_cons_succ])
  go_wp2
  refine NoPanic.normal ?_
  have hQe : Below W0.drew.heap.size W0.drew ((wz.setCell ⟨b9, 0, none⟩ (.int .u32 (p : Int))).setCell ⟨b9, 1, none⟩ (.slice ra rn rc)) := ((rvz.setCell (p := ⟨b9, 0, none⟩) hb9 _).setCell (p := ⟨b9, 1, none⟩) hb9 _)
  have hQf := btrans (bdrew (Below.refl _ W0)) hQe
  have xx : Box ((wz.setCell ⟨b9, 0, none⟩ (.int .u32 (p : Int))).setCell ⟨b9, 1, none⟩ (.slice ra rn rc)) b9 #[.int .u32 (p : Int), .slice ra rn rc] := xb9.put2 _ _
  have tx : Sl ((wz.setCell ⟨b9, 0, none⟩ (.int .u32 (p : Int))).setCell ⟨b9, 1, none⟩ (.slice ra rn rc)) ra rn rc (frobL p [0, 1] fl k) := ((hYz.setCell of9 _).setCell of9 _)
  have hx4 := hbx.mono hQf
  generalize hwd : ((wz.setCell ⟨b9, 0, none⟩ (.int .u32 (p : Int))).setCell ⟨b9, 1, none⟩ (.slice ra rn rc)) = wd4 at hx4 xx tx ⊢
  obtain ⟨Bx, hbv⟩ : ∃ b, b = b9 := ⟨_, rfl⟩
  obtain ⟨xA, xN, xC, e1, e2, e3⟩ : ∃ a n c, a = ra ∧ n = rn ∧ c = rc := ⟨_, _, _, rfl, rfl, rfl⟩
  rw [← hbv] at xx ⊢
  rw [← e1, ← e2, ← e3] at xx tx ⊢
  have ltx := tx.len
  clear hwd hQe hQf of9 ho9 hY2 hYz hY rv2 rvz hv2 hbB hRz hSz hGz hact hb9 xb9 g90 g91 z90 z91 hbA hsA hsA1 lsA rv1 hv1 hv0 KR hfS hbv e1 e2 e3 hbx
  go_upto_region 2 with fail
  have hfS := (hf.mono hx4.below).drew
  have txS := tx.drew
  have KR : Hid (∀ W, Below wd4.drew.heap.size wd4.drew W → W.cell? ⟨w.heap.size, 0, none⟩ = some (.int .u32 (p : Int)) ∧ W.cell? ⟨w.heap.size, 1, none⟩ = some (.slice fa fn fcap) ∧ W.cell? ⟨Bx, 0, none⟩ = some (.int .u32 (p : Int)) ∧ W.cell? ⟨Bx, 1, none⟩ = some (.slice xA xN xC)) := fun W h => ⟨(hx4.drew.mono h).cell' 0 0 _ _ rfl rfl, (hx4.drew.mono h).cell' 0 1 _ _ rfl rfl, (xx.drew.mono h).cell 0 _ rfl, (xx.drew.mono h).cell 1 _ rfl⟩
  refine wp_region_layE [(13, 9), (13, 10)] 13 [(true, 0), (true, 1), (true, 2), (true, 5), (false, 3), (false, 4), (false, 6), (true, 7), (true, 8), (true, 9), (true, 10)] [⟨11, 7, #[.int .u32 0, .slice none 0 0], 25⟩, ⟨12, 8, #[.int .u32 0, .slice none 0 0], 25⟩] (by kernel_rfl) (by kernel_rfl) (by kernel_rfl) (fun x hx o ho ρ W => ?_) (fun v0 hv0 => ?_)
  · simp only [List.mem_cons, List.not_mem_nil, or_false] at hx
    rcases hx with rfl | rfl
    all_goals (obtain rfl := Option.some.inj ho; go_simp)
  simp only [pick, List.getElem?_cons_succ, List.getElem?_cons_zero]
  iterate 4
    (refine heldR_quiet (v := ?_) (by rfl) ?_ ?_
     rotate_left
     · intro W hW; obtain ⟨d0, d1, d2, d3⟩ := KR.out W hW; go_simp; (try with_reducible rfl)
     try simp only [Act.put, List.setIfInBounds_toArray, List.set_cons_zero, List.set_cons_succ])
  refine heldR_loud (fun K' hK => ?_)
  go_simp
  refine (deg_x p v0).mono ?_
  rintro e vA ⟨u1, n1, cc1, rfl, hsA, hbA, _⟩
  refine hK.out _ _ (hbA) (fun v1 hv1 => ?_)
  clear hK K'
  have rv1 := (hv0.tr hbA).tr hv1
  have hsA1 := hsA.mono hv1
  have lsA := hsA1.len
  have lsA2 : n1 = 2 := lsA.symm
  subst lsA2
  try simp only [Act.put, List.setIfInBounds_toArray, List.set_cons_zero, List.set_cons_succ]
  refine heldR_loud (fun K' hK => ?_)
  go_simp
  refine (ppoly_SubL p xA xN xC (frobL p [0, 1] fl k) u1 2 cc1 [0, 1] (p : Int) v1 (txS.mono rv1) hsA1 hp0 hp (by omega) (by omega) (fun i => canon_le HX.out i)).mono ?_
  rintro e vB ⟨sa, sn, sc, rfl, hS, hbB, _⟩
  refine hK.out _ _ (hbB) (fun v2 hv2 => ?_)
  clear hK K'
  have rv2 := (rv1.tr hbB).tr hv2
  have hS2 := hS.mono hv2
  have lS := hS2.len
  try simp only [Act.put, List.setIfInBounds_toArray, List.set_cons_zero, List.set_cons_succ]
  refine heldR_loud (fun K' hK => ?_)
  go_simp
  refine (ppoly_DivMod p sa sn sc (sbL p (frobL p [0, 1] fl k) [0, 1]) fa fn fcap fl (p : Int) v2 hS2 (hfS.mono rv2) hf0 HLEAD.out hp1 hp (by omega) (by omega)).mono ?_
  rintro e vC ⟨qa, qn, qc, ra, rn, rc, rfl, hQq, hY, hbC, _, hPr⟩
  refine hK.out _ _ (hbC) (fun v3 hv3 => ?_)
  clear hK K'
  have rv3 := (rv2.tr hbC).tr hv3
  have hY3 := hY.mono hv3
  have hQ3 := hQq.mono hv3
  try simp only [Act.put, List.setIfInBounds_toArray, List.set_cons_zero, List.set_cons_succ]
  iterate 4
    (refine heldR_quiet (v := ?_) (by rfl) ?_ ?_
     rotate_left
     · intro W hW; obtain ⟨d0, d1, d2, d3⟩ := KR.out W hW; go_simp; (try with_reducible rfl)
     try simp only [Act.put, List.setIfInBounds_toArray, List.set_cons_zero, List.set_cons_succ])
  refine heldR_nil ?_
  intro bl wz hRz hSz hGz
  obtain ⟨b8, b9, hact, hne89, hb8, hb9, ho8, ho9⟩ := good2 (by decide) hSz hGz
  have hne98 : b9 ≠ b8 := fun e => hne89 e.symm
  rw [hact]
  have rvz := rv3.tr hRz
  have hYz := hY3.mono hRz
  have of9 := off_new ho9 hYz RO.out
  have of8 := off_new ho8 hYz RO.out
  have xb8 := box_of_obj ho8
  have g80 := xb8.cell 0 _ rfl
  have g81 := xb8.cell 1 _ rfl
  have z80 := xb8.frozen 0
  have z81 := xb8.frozen 1
  have xb9 := box_of_obj ho9
  have g90 := xb9.cell 0 _ rfl
  have g91 := xb9.cell 1 _ rfl
  have z90 := xb9.frozen 0
  have z91 := xb9.frozen 1
  simp only [List.drop_succ_cons, List.drop_zero]
  (try simp only [Act.put, List.setIfInBounds_toArray, List.set_cons_zero, List.set_cons_succ])
  go_wp2
  refine NoPanic.normal ?_
  have hQe : Below wd4.drew.heap.size wd4.drew ((((wz.setCell ⟨b8, 0, none⟩ (.int .u32 (p : Int))).setCell ⟨b8, 1, none⟩ (.slice qa qn qc)).setCell ⟨b9, 0, none⟩ (.int .u32 (p : Int))).setCell ⟨b9, 1, none⟩ (.slice ra rn rc)) := ((((rvz.setCell (p := ⟨b8, 0, none⟩) hb8 _).setCell (p := ⟨b8, 1, none⟩) hb8 _).setCell (p := ⟨b9, 0, none⟩) hb9 _).setCell (p := ⟨b9, 1, none⟩) hb9 _)
  have hQf := btrans (bdrew (Below.refl _ wd4)) hQe
  have xr : Box ((((wz.setCell ⟨b8, 0, none⟩ (.int .u32 (p : Int))).setCell ⟨b8, 1, none⟩ (.slice qa qn qc)).setCell ⟨b9, 0, none⟩ (.int .u32 (p : Int))).setCell ⟨b9, 1, none⟩ (.slice ra rn rc)) b9 #[.int .u32 (p : Int), .slice ra rn rc] := (xb9.other2 hne98 _ _).put2 _ _
  have tr : Sl ((((wz.setCell ⟨b8, 0, none⟩ (.int .u32 (p : Int))).setCell ⟨b8, 1, none⟩ (.slice qa qn qc)).setCell ⟨b9, 0, none⟩ (.int .u32 (p : Int))).setCell ⟨b9, 1, none⟩ (.slice ra rn rc)) ra rn rc (apL p fl k) := ((((hYz.setCell of8 _).setCell of8 _).setCell of9 _).setCell of9 _)
  have hx5 := hx4.mono hQf
  have s4 := hx4.size
  have pr5 : Prov w [] ra rn := hPr.mono (by have := rv2.size; have h2 : wd4.drew.heap.size = wd4.heap.size := rfl; simp only [List.length_cons, List.length_nil] at s4; omega)
  have or5 : Off ra rn (w.heap.size + 1) := hPr.off0 (by have := rv2.size; have h2 : wd4.drew.heap.size = wd4.heap.size := rfl; simp only [List.length_cons, List.length_nil] at s4; omega)
  generalize hwd : ((((wz.setCell ⟨b8, 0, none⟩ (.int .u32 (p : Int))).setCell ⟨b8, 1, none⟩ (.slice qa qn qc)).setCell ⟨b9, 0, none⟩ (.int .u32 (p : Int))).setCell ⟨b9, 1, none⟩ (.slice ra rn rc)) = wd5 at hx5 xr tr ⊢
  clear hwd hQe hQf of9 ho9 of8 ho8 hY3 hYz hY hQ3 hQq rv2 rv3 rvz hv2 hv3 hbB hbC hRz hSz hGz hact hb9 hb8 xb9 xb8 g90 g91 z90 z91 g80 g81 z80 z81 hbA hsA hsA1 lsA rv1 hv1 hv0 KR hfS txS hx4 hPr
  have e0 := xr.cell 0 _ rfl
  have e1 := xr.cell 1 _ rfl
  have f0 := hx5.frozen' 1 0 (by simp)
  have f1 := hx5.frozen' 1 1 (by simp)
  have c0 := hx5.cell' 1 0 _ _ rfl rfl
  have c1 := hx5.cell' 1 1 _ _ rfl rfl
  go_wp2
  (try simp only [Exit.inBlock, Exit.then])
  refine bodyPost_ret (v := .agg #[.int .u32 (p : Int), .slice ra rn rc]) (by simp [results, Tryd.results70, go_sem, c0, c1]) rfl ?_
  exact ⟨ra, rn, rc, rfl, tr.set2 or5 _ _, Alg.Below.set2 hx5.below (by omega) _ _, pr5⟩
set_option maxRecDepth 100000 in
set_option maxHeartbeats 900000 in
theorem ref15_apart (p : Nat) (fa : Option Addr) (fn fcap : Nat) (fl : List Nat) (k : Nat) (w : World) (hf : Sl w fa fn fcap fl) (hpr : IsPr p) (hp : p < 4294967296) (cf : Canon p fl) (hf0 : 0 < fn) (hfn : fn ≤ 1000000) (hk : k ≤ 1000) :
    Calls Tryd.prog 58 #[.agg #[.int .u32 (p : Int), .slice fa fn fcap], .int .i64 (k : Int)] w (RetP p (apL p fl k) [] w) := by
  haveI hne : NeZero p := ⟨by have := hpr.1; omega⟩
  have hp1 : 1 < p := hpr.1
  have hp0 : 0 < p := by omega
  have hfl : fl ≠ [] := fun e => by have := hf.len; rw [e] at this; simp at this; omega
  have eg := hf.len
  have hlead : nth fl (fn - 1) ≠ 0 := by
    rcases cf.top with h | h
    · exact absurd h hfl
    · rw [← eg]; exact h
  have HLEAD := Alg.hid hlead
  have HX := Alg.hid (canon_x hpr)
  have FO := Alg.hid (frobL_ok hpr HX.out cf hfl k).canon
  have FL := (frobL_ok hpr HX.out cf hfl k).len
  rw [eg] at FL
  have SO := Alg.hid (sbL_ok (p := p) (frobL p [0, 1] fl k) [0, 1] (fun i => canon_le HX.out i)).2
  have SL := sbL_len p (frobL p [0, 1] fl k) [0, 1]
  have SL2 : ([0, 1] : List Nat).length = 2 := rfl
  rw [SL2] at SL
  have RO := Alg.hid (apL_md hpr cf hfl k).canon
  have DO := Alg.hid (divL_ok hpr (sbL p (frobL p [0, 1] fl k) [0, 1]) fl SO.out cf hfl)
  have SE := Alg.hid (subL_eq hp1 (f := frobL p [0, 1] fl k) HX.out)
  clear hlead eg SL2 hfl
  have hbx := boxes2 w #[.int .u32 (p : Int), .slice fa fn fcap] #[.int .u32 0, .slice none 0 0] 25 25
  go_enter Tryd.func58, Tryd.ntmps58
  go_upto_region 1 with fail
  generalize hW0 : ((w.alloc (.cells #[.int .u32 (p : Int), .slice fa fn fcap] 25)).alloc (.cells #[.int .u32 0, .slice none 0 0] 25)) = W0 at hbx ⊢
  clear hW0
  have hfS := (hf.mono hbx.below).drew
  have KR : Hid (∀ W, Below W0.drew.heap.size W0.drew W → W.cell? ⟨w.heap.size, 0, none⟩ = some (.int .u32 (p : Int)) ∧ W.cell? ⟨w.heap.size, 1, none⟩ = some (.slice fa fn fcap)) := fun W h => ⟨(hbx.drew.mono h).cell' 0 0 _ _ rfl rfl, (hbx.drew.mono h).cell' 0 1 _ _ rfl rfl⟩
  refine wp_region_layE [(10, 8)] 10 [(true, 0), (true, 1), (true, 3), (true, 4), (false, 2), (false, 5), (true, 6), (true, 7), (true, 8)] [⟨9, 5, #[.int .u32 0, .slice none 0 0], 25⟩] (by kernel_rfl) (by kernel_rfl) (by kernel_rfl) (fun x hx o ho ρ W => ?_) (fun v0 hv0 => ?_)
  · simp only [List.mem_cons, List.not_mem_nil, or_false] at hx
    subst hx
    all_goals (obtain rfl := Option.some.inj ho; go_simp)
  simp only [pick, List.getElem?_cons_succ, List.getElem?_cons_zero]
  iterate 4
    (refine heldR_quiet (v := ?_) (by rfl) ?_ ?_
     rotate_left
     · intro W hW; obtain ⟨d0, d1⟩ := KR.out W hW; go_simp; (try with_reducible rfl)
     try simp only [Act.put, List.setIfInBounds_toArray, List.set_cons_zero, List.set_cons_succ])
  refine heldR_loud (fun K' hK => ?_)
  go_simp
  refine (ref15_X p v0).mono ?_
  rintro e vA ⟨u1, n1, cc1, rfl, hsA, hbA, _⟩
  refine hK.out _ _ (hbA) (fun v1 hv1 => ?_)
  clear hK K'
  have rv1 := (hv0.tr hbA).tr hv1
  have hsA1 := hsA.mono hv1
  have lsA := hsA1.len
  have lsA2 : n1 = 2 := lsA.symm
  subst lsA2
  try simp only [Act.put, List.setIfInBounds_toArray, List.set_cons_zero, List.set_cons_succ]
  refine heldR_loud (fun K' hK => ?_)
  go_simp
  refine (ref_Frob p u1 2 cc1 [0, 1] fa fn fcap fl k v1 hsA1 (hfS.mono rv1) hpr hp HX.out cf hf0 (by omega) (by omega) hk).mono ?_
  rintro e vB ⟨ra, rn, rc, rfl, hY, hbB, _⟩
  refine hK.out _ _ (hbB) (fun v2 hv2 => ?_)
  clear hK K'
  have rv2 := (rv1.tr hbB).tr hv2
  have hY2 := hY.mono hv2
  try simp only [Act.put, List.setIfInBounds_toArray, List.set_cons_zero, List.set_cons_succ]
  iterate 3
    (refine heldR_quiet (v := ?_) (by rfl) ?_ ?_
     rotate_left
     · intro W hW; obtain ⟨d0, d1⟩ := KR.out W hW; go_simp; (try with_reducible rfl)
     try simp only [Act.put, List.setIfInBounds_toArray, List.set_cons_zero, List.set_cons_succ])
  refine heldR_nil ?_
  intro bl wz hRz hSz hGz
  obtain ⟨b9, hact, hb9, ho9⟩ := good1 hSz hGz
  rw [hact]
  have rvz := rv2.tr hRz
  have hYz := hY2.mono hRz
  have of9 := off_new ho9 hYz FO.out
  have xb9 := box_of_obj ho9
  have g90 := xb9.cell 0 _ rfl
  have g91 := xb9.cell 1 _ rfl
  have z90 := xb9.frozen 0
  have z91 := xb9.frozen 1
  simp only [List.drop_succ_cons, List.drop_zero]
  (try simp only [Act.put, List.setIfInBounds_toArray, List.set_cons_zero, List.set_cons_succ])
  go_wp2
  refine NoPanic.normal ?_
  have hQe : Below W0.drew.heap.size W0.drew ((wz.setCell ⟨b9, 0, none⟩ (.int .u32 (p : Int))).setCell ⟨b9, 1, none⟩ (.slice ra rn rc)) := ((rvz.setCell (p := ⟨b9, 0, none⟩) hb9 _).setCell (p := ⟨b9, 1, none⟩) hb9 _)
  have hQf := btrans (bdrew (Below.refl _ W0)) hQe
  have xx : Box ((wz.setCell ⟨b9, 0, none⟩ (.int .u32 (p : Int))).setCell ⟨b9, 1, none⟩ (.slice ra rn rc)) b9 #[.int .u32 (p : Int), .slice ra rn rc] := xb9.put2 _ _
  have tx : Sl ((wz.setCell ⟨b9, 0, none⟩ (.int .u32 (p : Int))).setCell ⟨b9, 1, none⟩ (.slice ra rn rc)) ra rn rc (frobL p [0, 1] fl k) := ((hYz.setCell of9 _).setCell of9 _)
  have hx4 := hbx.mono hQf
  generalize hwd : ((wz.setCell ⟨b9, 0, none⟩ (.int .u32 (p : Int))).setCell ⟨b9, 1, none⟩ (.slice ra rn rc)) = wd4 at hx4 xx tx ⊢
  obtain ⟨Bx, hbv⟩ : ∃ b, b = b9 := ⟨_, rfl⟩
  obtain ⟨xA, xN, xC, e1, e2, e3⟩ : ∃ a n c, a = ra ∧ n = rn ∧ c = rc := ⟨_, _, _, rfl, rfl, rfl⟩
  rw [← hbv] at xx ⊢
  rw [← e1, ← e2, ← e3] at xx tx ⊢
  have ltx := tx.len
  clear hwd hQe hQf of9 ho9 hY2 hYz hY rv2 rvz hv2 hbB hRz hSz hGz hact hb9 xb9 g90 g91 z90 z91 hbA hsA hsA1 lsA rv1 hv1 hv0 KR hfS hbv e1 e2 e3 hbx
  go_upto_region 2 with fail
  have hfS := (hf.mono hx4.below).drew
  have txS := tx.drew
  have KR : Hid (∀ W, Below wd4.drew.heap.size wd4.drew W → W.cell? ⟨w.heap.size, 0, none⟩ = some (.int .u32 (p : Int)) ∧ W.cell? ⟨w.heap.size, 1, none⟩ = some (.slice fa fn fcap) ∧ W.cell? ⟨Bx, 0, none⟩ = some (.int .u32 (p : Int)) ∧ W.cell? ⟨Bx, 1, none⟩ = some (.slice xA xN xC)) := fun W h => ⟨(hx4.drew.mono h).cell' 0 0 _ _ rfl rfl, (hx4.drew.mono h).cell' 0 1 _ _ rfl rfl, (xx.drew.mono h).cell 0 _ rfl, (xx.drew.mono h).cell 1 _ rfl⟩
  refine wp_region_layE [(13, 9), (13, 10)] 13 [(true, 0), (true, 1), (true, 2), (true, 5), (false, 3), (false, 4), (false, 6), (true, 7), (true, 8), (true, 9), (true, 10)] [⟨11, 7, #[.int .u32 0, .slice none 0 0], 25⟩, ⟨12, 8, #[.int .u32 0, .slice none 0 0], 25⟩] (by kernel_rfl) (by kernel_rfl) (by kernel_rfl) (fun x hx o ho ρ W => ?_) (fun v0 hv0 => ?_)
  · simp only [List.mem_cons, List.not_mem_nil, or_false] at hx
    rcases hx with rfl | rfl
    all_goals (obtain rfl := Option.some.inj ho; go_simp)
  simp only [pick, List.getElem?_cons_succ, List.getElem?_cons_zero]
  iterate 4
    (refine heldR_quiet (v := ?_) (by rfl) ?_ ?_
     rotate_left
     · intro W hW; obtain ⟨d0, d1, d2, d3⟩ := KR.out W hW; go_simp; (try with_reducible rfl)
     try simp only [Act.put, List.setIfInBounds_toArray, List.set_cons_zero, List.set_cons_succ])
  refine heldR_loud (fun K' hK => ?_)
  go_simp
  refine (ref15_X p v0).mono ?_
  rintro e vA ⟨u1, n1, cc1, rfl, hsA, hbA, _⟩
  refine hK.out _ _ (hbA) (fun v1 hv1 => ?_)
  clear hK K'
  have rv1 := (hv0.tr hbA).tr hv1
  have hsA1 := hsA.mono hv1
  have lsA := hsA1.len
  have lsA2 : n1 = 2 := lsA.symm
  subst lsA2
  try simp only [Act.put, List.setIfInBounds_toArray, List.set_cons_zero, List.set_cons_succ]
  refine heldR_loud (fun K' hK => ?_)
  go_simp
  refine (ref_Sub p xA xN xC (frobL p [0, 1] fl k) u1 2 cc1 [0, 1] v1 (txS.mono rv1) hsA1 hp0 hp (by omega) (by omega)).mono ?_
  rw [← SE.out]
  rintro e vB ⟨sa, sn, sc, rfl, hS, hbB, _⟩
  refine hK.out _ _ (hbB) (fun v2 hv2 => ?_)
  clear hK K'
  have rv2 := (rv1.tr hbB).tr hv2
  have hS2 := hS.mono hv2
  have lS := hS2.len
  try simp only [Act.put, List.setIfInBounds_toArray, List.set_cons_zero, List.set_cons_succ]
  refine heldR_loud (fun K' hK => ?_)
  go_simp
  refine (ref_DivMod p sa sn sc (sbL p (frobL p [0, 1] fl k) [0, 1]) fa fn fcap fl (p : Int) v2 hS2 (hfS.mono rv2) hf0 hp1 hp (by omega) (by omega)).mono ?_
  rintro e vC ⟨qa, qn, qc, ra, rn, rc, rfl, hQq, hY, hbC, _, hPr⟩
  refine hK.out _ _ (hbC) (fun v3 hv3 => ?_)
  clear hK K'
  have rv3 := (rv2.tr hbC).tr hv3
  have hY3 := hY.mono hv3
  have hQ3 := hQq.mono hv3
  try simp only [Act.put, List.setIfInBounds_toArray, List.set_cons_zero, List.set_cons_succ]
  iterate 4
    (refine heldR_quiet (v := ?_) (by rfl) ?_ ?_
     rotate_left
     · intro W hW; obtain ⟨d0, d1, d2, d3⟩ := KR.out W hW; go_simp; (try with_reducible rfl)
     try simp only [Act.put, List.setIfInBounds_toArray, List.set_cons_zero, List.set_cons_succ])
  refine heldR_nil ?_
  intro bl wz hRz hSz hGz
  obtain ⟨b8, b9, hact, hne89, hb8, hb9, ho8, ho9⟩ := good2 (by decide) hSz hGz
  have hne98 : b9 ≠ b8 := fun e => hne89 e.symm
  rw [hact]
  have rvz := rv3.tr hRz
  have hYz := hY3.mono hRz
  have of9 := off_new ho9 hYz RO.out
  have of8 := off_new ho8 hYz RO.out
  have xb8 := box_of_obj ho8
  have g80 := xb8.cell 0 _ rfl
  have g81 := xb8.cell 1 _ rfl
  have z80 := xb8.frozen 0
  have z81 := xb8.frozen 1
  have xb9 := box_of_obj ho9
  have g90 := xb9.cell 0 _ rfl
  have g91 := xb9.cell 1 _ rfl
  have z90 := xb9.frozen 0
  have z91 := xb9.frozen 1
  simp only [List.drop_succ_cons, List.drop_zero]
  (try simp only [Act.put, List.setIfInBounds_toArray, List.set_cons_zero, List.set_cons_succ])
  go_wp2
  refine NoPanic.normal ?_
  have hQe : Below wd4.drew.heap.size wd4.drew ((((wz.setCell ⟨b8, 0, none⟩ (.int .u32 (p : Int))).setCell ⟨b8, 1, none⟩ (.slice qa qn qc)).setCell ⟨b9, 0, none⟩ (.int .u32 (p : Int))).setCell ⟨b9, 1, none⟩ (.slice ra rn rc)) := ((((rvz.setCell (p := ⟨b8, 0, none⟩) hb8 _).setCell (p := ⟨b8, 1, none⟩) hb8 _).setCell (p := ⟨b9, 0, none⟩) hb9 _).setCell (p := ⟨b9, 1, none⟩) hb9 _)
  have hQf := btrans (bdrew (Below.refl _ wd4)) hQe
  have xr : Box ((((wz.setCell ⟨b8, 0, none⟩ (.int .u32 (p : Int))).setCell ⟨b8, 1, none⟩ (.slice qa qn qc)).setCell ⟨b9, 0, none⟩ (.int .u32 (p : Int))).setCell ⟨b9, 1, none⟩ (.slice ra rn rc)) b9 #[.int .u32 (p : Int), .slice ra rn rc] := (xb9.other2 hne98 _ _).put2 _ _
  have tr : Sl ((((wz.setCell ⟨b8, 0, none⟩ (.int .u32 (p : Int))).setCell ⟨b8, 1, none⟩ (.slice qa qn qc)).setCell ⟨b9, 0, none⟩ (.int .u32 (p : Int))).setCell ⟨b9, 1, none⟩ (.slice ra rn rc)) ra rn rc (apL p fl k) := ((((hYz.setCell of8 _).setCell of8 _).setCell of9 _).setCell of9 _)
  have hx5 := hx4.mono hQf
  have s4 := hx4.size
  have pr5 : Prov w [] ra rn := hPr.mono (by have := rv2.size; have h2 : wd4.drew.heap.size = wd4.heap.size := rfl; simp only [List.length_cons, List.length_nil] at s4; omega)
  have or5 : Off ra rn (w.heap.size + 1) := hPr.off0 (by have := rv2.size; have h2 : wd4.drew.heap.size = wd4.heap.size := rfl; simp only [List.length_cons, List.length_nil] at s4; omega)
  generalize hwd : ((((wz.setCell ⟨b8, 0, none⟩ (.int .u32 (p : Int))).setCell ⟨b8, 1, none⟩ (.slice qa qn qc)).setCell ⟨b9, 0, none⟩ (.int .u32 (p : Int))).setCell ⟨b9, 1, none⟩ (.slice ra rn rc)) = wd5 at hx5 xr tr ⊢
  clear hwd hQe hQf of9 ho9 of8 ho8 hY3 hYz hY hQ3 hQq rv2 rv3 rvz hv2 hv3 hbB hbC hRz hSz hGz hact hb9 hb8 xb9 xb8 g90 g91 z90 z91 g80 g81 z80 z81 hbA hsA hsA1 lsA rv1 hv1 hv0 KR hfS txS hx4 hPr
  have e0 := xr.cell 0 _ rfl
  have e1 := xr.cell 1 _ rfl
  have f0 := hx5.frozen' 1 0 (by simp)
  have f1 := hx5.frozen' 1 1 (by simp)
  have c0 := hx5.cell' 1 0 _ _ rfl rfl
  have c1 := hx5.cell' 1 1 _ _ rfl rfl
  go_wp2
  (try simp only [Exit.inBlock, Exit.then])
  refine bodyPost_ret (v := .agg #[.int .u32 (p : Int), .slice ra rn rc]) (by simp [results, Tryd.results58, go_sem, c0, c1]) rfl ?_
  exact ⟨ra, rn, rc, rfl, tr.set2 or5 _ _, Alg.Below.set2 hx5.below (by omega) _ _, pr5⟩
end Go.Proofs.YtcbhoedifgghhaaDoor
end
