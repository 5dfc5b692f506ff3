/- The walk of PpolyFrob. -/
import Derived.Test.YtcefhnmhcapccaaDoorW49
import Derived.Test.YtcefhnmhcapccaaDoorW31
import Derived.Test.YtcefhnmhcapccaaDoorH4
import Derived.Test.YtcefhnmhcapccaaDoorH6
import Derived.Test.YtcefhnmhcapccaaDoorA19
open Alg Go Go.RowKit
namespace Alg
/-- a box with all its cells told -/
def BoxX (W : World) (b : Nat) (cs : Array Value) : Prop := b < W.heap.size ∧ ∀ i, W.cell? ⟨b, i, none⟩ = cs[i]?
theorem BoxX.new' (W : World) (cs : Array Value) (T : TypeId) {b : Nat} (hb : b = W.heap.size) : BoxX (W.alloc (.cells cs T)) b cs := by
  subst hb
  exact ⟨by rw [World.size_alloc]; omega, fun i => by rw [cell_box]⟩
theorem BoxX.mono {W W' : World} {b : Nat} {cs : Array Value} (h : BoxX W b cs) (hb : Below W.heap.size W W') : BoxX W' b cs :=
  ⟨Nat.lt_of_lt_of_le h.1 hb.size, fun i => (hb.cell (p := ⟨b, i, none⟩) h.1).trans (h.2 i)⟩
theorem BoxX.drew {W : World} {b : Nat} {cs : Array Value} (h : BoxX W b cs) : BoxX W.drew b cs := h.mono (bdrew (Below.refl _ W))
theorem BoxX.alloc {W : World} {b : Nat} {cs : Array Value} (h : BoxX W b cs) (o : Obj) : BoxX (W.alloc o) b cs := h.mono (balloc (Below.refl _ W) o)
theorem BoxX.off {W : World} {b p : Nat} {cs : Array Value} {a : Option Addr} {n c : Nat} {l : List Nat} (h : BoxX W b cs) (s : Sl W a n c l) (cl : Canon p l) (v : Value) (h0 : cs = #[.int .u32 0, v]) (hv : v = .slice none 0 0) : Off a n b := by
  subst h0 hv
  rcases s.rd with h1 | ⟨b', off, rfl, hc⟩
  · exact Or.inl h1
  by_cases hn : n = 0
  · exact Or.inl hn
  refine Or.inr (fun b2 o2 s2 he hb => ?_)
  simp only [Option.some.injEq, Addr.mk.injEq] at he
  obtain ⟨rfl, _, _⟩ := he
  subst hb
  have h2 := (h.2 _).symm.trans (hc (n - 1) (by omega))
  have hl := s.len
  have h3 : nth l (n - 1) ≠ 0 := by
    rcases cl.top with h | h
    · rw [h] at hl; simp at hl; omega
    · rw [← hl]; exact h
  generalize off + (n - 1) = j at h2
  match j, h2 with
  | 0, h2 => simp at h2; omega
  | 1, h2 => simp at h2
  | j + 2, h2 => simp at h2
theorem Box.two {W : World} {b : Nat} {u0 u1 : Value} (h : Box W b #[u0, u1]) :
    W.cell? ⟨b, 0, none⟩ = some u0 ∧ W.cell? ⟨b, 1, none⟩ = some u1 ∧ W.frozen? ⟨b, 0, none⟩ = false ∧ W.frozen? ⟨b, 1, none⟩ = false := ⟨h.cell 0 _ rfl, h.cell 1 _ rfl, h.frozen 0, h.frozen 1⟩
theorem bset {W w1 : World} (h : Below W.heap.size W w1) {g i : Nat} (hg : W.heap.size ≤ g) (u : Value) : Below W.heap.size W (w1.setCell ⟨g, i, none⟩ u) := h.setCell (p := ⟨g, i, none⟩) hg u
end Alg
namespace Go.Proofs.YtcefhnmhcapccaaDoor
open Go.RowKit
set_option maxRecDepth 100000 in
set_option maxHeartbeats 2000000 in
theorem frob_walk (hA : Awake) (p : Nat) (fa : Option Addr) (fn fcap : Nat) (fl : List Nat) (q : Nat) (ga : Option Addr) (gn gcap : Nat) (gl : List Nat) (r : Nat) (ma : Option Addr) (mn mcap : Nat) (ml : List Nat) (k : Nat) (w : World)
    (hf : Sl w fa fn fcap fl) (hg : Sl w ga gn gcap gl) (hm : Sl w ma mn mcap ml) (hp : p < 4294967296) (hq : q < 4294967296) (hr : r < 4294967296) (hk : k < 256) :
    Calls Tryd.prog 10 #[.agg #[.int .u32 (p : Int), .slice fa fn fcap], .agg #[.int .u32 (q : Int), .slice ga gn gcap], .agg #[.int .u32 (r : Int), .slice ma mn mcap], .int .u8 (k : Int)] w fun e w' => e = .returned (.bool true) ∧ Below w.heap.size w w' := by
  have hB := boxes3 w #[.int .u32 (p : Int), .slice fa fn fcap] #[.int .u32 (q : Int), .slice ga gn gcap] #[.int .u32 (r : Int), .slice ma mn mcap] 25 25 25
  go_enter Tryd.func10, Tryd.ntmps10
  go_wp2_with fail
  refine (hA _).mono ?_
  rintro e w1 ⟨rfl, hb1⟩
  have hx1 := hB.mono hb1
  clear hB
  have K0 : Hid (∀ W, Boxes w W [#[.int .u32 (p : Int), .slice fa fn fcap], #[.int .u32 (q : Int), .slice ga gn gcap], #[.int .u32 (r : Int), .slice ma mn mcap]] → W.cell? ⟨w.heap.size, 0, none⟩ = some (.int .u32 (p : Int)) ∧ W.cell? ⟨w.heap.size, 1, none⟩ = some (.slice fa fn fcap) ∧ W.cell? ⟨w.heap.size + 1, 0, none⟩ = some (.int .u32 (q : Int)) ∧ W.cell? ⟨w.heap.size + 1, 1, none⟩ = some (.slice ga gn gcap) ∧ W.cell? ⟨w.heap.size + 1 + 1, 0, none⟩ = some (.int .u32 (r : Int)) ∧ W.cell? ⟨w.heap.size + 1 + 1, 1, none⟩ = some (.slice ma mn mcap)) := fun W h => ⟨h.cell' 0 0 _ _ rfl rfl, h.cell' 0 1 _ _ rfl rfl, h.cell' 1 0 _ _ rfl rfl, h.cell' 1 1 _ _ rfl rfl, h.cell' 2 0 _ _ rfl rfl, h.cell' 2 1 _ _ rfl rfl⟩
  obtain ⟨d0, d1, d2, d3, d4, d5⟩ := K0.out w1 hx1
  go_wp2_with fail
  refine (ref_Pair p fa fn fcap fl q ga gn gcap gl 6 w1 (hf.mono hx1.below) (hg.mono hx1.below) hp hq (by omega)).mono ?_
  rintro e w2 ⟨rfl, hb2⟩
  have hx2 := hx1.mono hb2
  clear d0 d1 d2 d3 d4 d5
  clear hx1
  obtain ⟨d0, d1, d2, d3, d4, d5⟩ := K0.out w2 hx2
  cases hpb : pairB p fl q gl 6 with
  | false =>
    go_wp2
    go_ret
    exact ⟨rfl, hx2.below⟩
  | true =>
  obtain ⟨rfl, lf, lg, cf, cg, hpr, hp2⟩ := pairB_true hpb
  clear hpb
  go_wp2_with fail
  refine (ref_Pair p fa fn fcap fl r ma mn mcap ml 6 w2 (hf.mono hx2.below) (hm.mono hx2.below) hp hr (by omega)).mono ?_
  rintro e w3 ⟨rfl, hb3⟩
  have hx3 := hx2.mono hb3
  clear d0 d1 d2 d3 d4 d5
  clear hx2
  obtain ⟨d0, d1, d2, d3, d4, d5⟩ := K0.out w3 hx3
  cases hpb : pairB p fl r ml 6 with
  | false =>
    go_wp2
    go_ret
    exact ⟨rfl, hx3.below⟩
  | true =>
  obtain ⟨rfl, _, lm, _, cm, _, _⟩ := pairB_true hpb
  clear hpb
  rw [hf.len] at lf
  rw [hg.len] at lg
  rw [hm.len] at lm
  by_cases hm0 : mn = 0
  · have hz : ((mn : Int) == 0) = true := by simp; omega
    go_wp2
    go_ret
    exact ⟨rfl, hx3.below⟩
  have hz : ((mn : Int) == 0) = false := by simp; omega
  have hmp : 0 < mn := by omega
  haveI hne : NeZero p := ⟨by have := hpr.1; omega⟩
  have hp1 : 1 < p := hpr.1
  have hp0 : 0 < p := by omega
  have hml : ml ≠ [] := fun e => by have := hm.len; rw [e] at this; simp at this; omega
  have hlead : nth ml (mn - 1) ≠ 0 := by
    rcases cm.top with h | h
    · exact absurd h hml
    · have em := hm.len
      rw [← em]; exact h
  have HLEAD := Alg.hid hlead
  have HML := Alg.hid hml
  have FO := Alg.hid (fun (l : List Nat) (cl : Canon p l) j => (frobL_ok hpr cl cm hml j).canon)
  have FL := Alg.hid (fun (l : List Nat) (cl : Canon p l) j => Nat.lt_of_lt_of_le (frobL_ok hpr cl cm hml j).len (by have := hm.len; omega : ml.length ≤ mn))
  obtain ⟨nk, hnk⟩ : ∃ nk, nk = k % 5 := ⟨_, rfl⟩
  have nk4 : nk ≤ 4 := by omega
  have hrem : (k : Int).tmod 5 = (nk : Int) := by rw [Int.tmod_eq_emod_of_nonneg (by omega)]; omega
  have FS := Alg.hid (frob_sum hpr cf cg cm hml nk)
  have FP := Alg.hid (frob_prod hpr cf cg cm hml nk)
  have FA := Alg.hid (frob_again hpr cf cm hml nk)
  have CA := Alg.hid (addL_ok' (p := p) fl gl).2
  have CM := Alg.hid (mulL_ok (p := p) fl gl).2
  have LA := addL_len p fl gl
  have LM := mulL_len p fl gl
  rw [hf.len, hg.len] at LA LM
  clear hml hlead hnk
  have K : Hid (∀ W, Boxes w W [#[.int .u32 (p : Int), .slice fa fn fcap], #[.int .u32 (p : Int), .slice ga gn gcap], #[.int .u32 (p : Int), .slice ma mn mcap]] → W.cell? ⟨w.heap.size, 0, none⟩ = some (.int .u32 (p : Int)) ∧ W.cell? ⟨w.heap.size, 1, none⟩ = some (.slice fa fn fcap) ∧ W.cell? ⟨w.heap.size + 1, 0, none⟩ = some (.int .u32 (p : Int)) ∧ W.cell? ⟨w.heap.size + 1, 1, none⟩ = some (.slice ga gn gcap) ∧ W.cell? ⟨w.heap.size + 1 + 1, 0, none⟩ = some (.int .u32 (p : Int)) ∧ W.cell? ⟨w.heap.size + 1 + 1, 1, none⟩ = some (.slice ma mn mcap)) := fun W h => ⟨h.cell' 0 0 _ _ rfl rfl, h.cell' 0 1 _ _ rfl rfl, h.cell' 1 0 _ _ rfl rfl, h.cell' 1 1 _ _ rfl rfl, h.cell' 2 0 _ _ rfl rfl, h.cell' 2 1 _ _ rfl rfl⟩
  clear K0
  go_upto_region 5 with fail
  go_upto_region 6 with fail
  clear d0 d1 d2 d3 d4 d5
  have hfS := (hf.mono hx3.below).drew
  have hgS := (hg.mono hx3.below).drew
  have hmS := (hm.mono hx3.below).drew
  have hxD := hx3.drew
  have KR : Hid (∀ W, Below w3.drew.heap.size w3.drew W → W.cell? ⟨w.heap.size, 0, none⟩ = some (.int .u32 (p : Int)) ∧ W.cell? ⟨w.heap.size, 1, none⟩ = some (.slice fa fn fcap) ∧ W.cell? ⟨w.heap.size + 1, 0, none⟩ = some (.int .u32 (p : Int)) ∧ W.cell? ⟨w.heap.size + 1, 1, none⟩ = some (.slice ga gn gcap) ∧ W.cell? ⟨w.heap.size + 1 + 1, 0, none⟩ = some (.int .u32 (p : Int)) ∧ W.cell? ⟨w.heap.size + 1 + 1, 1, none⟩ = some (.slice ma mn mcap)) := fun W h => ⟨(hx3.drew.mono h).cell' 0 0 _ _ rfl rfl, (hx3.drew.mono h).cell' 0 1 _ _ rfl rfl, (hx3.drew.mono h).cell' 1 0 _ _ rfl rfl, (hx3.drew.mono h).cell' 1 1 _ _ rfl rfl, (hx3.drew.mono h).cell' 2 0 _ _ rfl rfl, (hx3.drew.mono h).cell' 2 1 _ _ rfl rfl⟩
  refine wp_region_layE [(10, 8)] 10 [(true, 0), (true, 1), (true, 3), (true, 4), (false, 2), (false, 5), (true, 6), (true, 7), (true, 8)] [⟨9, 10, #[.int .u32 0, .slice none 0 0], 25⟩] (by kernel_rfl) (by kernel_rfl) (by kernel_rfl) (fun x hx o ho ρ W => ?_) (fun v0 hv0 => ?_)
  · simp only [List.mem_cons, List.not_mem_nil, or_false] at hx
    subst hx
    all_goals (obtain rfl := Option.some.inj ho; go_simp)
  simp only [pick, List.getElem?_cons_succ, List.getElem?_cons_zero]
  iterate 4
    (refine heldR_quiet (v := ?_) (by rfl) ?_ ?_
     rotate_left
     · intro W hW; obtain ⟨d0, d1, d2, d3, d4, d5⟩ := KR.out W hW; go_simp; (try with_reducible rfl)
     try simp only [Act.put, List.setIfInBounds_toArray, List.set_cons_zero, List.set_cons_succ])
  refine heldR_loud (fun K' hK => ?_)
  go_simp
  refine (ppoly_AddL p fa fn fcap fl ga gn gcap gl (p : Int) v0 (hfS.mono hv0) (hgS.mono hv0) hp0 hp (by omega) (by omega)).mono ?_
  rintro e vA ⟨u1, n1, cc1, rfl, hsA, hbA, _⟩
  refine hK.out _ _ (hbA) (fun v1 hv1 => ?_)
  clear hK K'
  have rv1 := (hv0.tr hbA).tr hv1
  have hsA1 := hsA.mono hv1
  have lsA := hsA1.len
  try simp only [Act.put, List.setIfInBounds_toArray, List.set_cons_zero, List.set_cons_succ]
  refine heldR_loud (fun K' hK => ?_)
  go_simp
  refine (ppoly_Frob p u1 n1 cc1 (addL p fl gl) ma mn mcap ml nk v1 hsA1 (hmS.mono rv1) hpr hp CA.out cm hmp (by omega) (by omega) (by omega)).mono ?_
  rintro e vB ⟨ra, rn, rc, rfl, hY, hbB, _⟩
  refine hK.out _ _ (hbB) (fun v2 hv2 => ?_)
  clear hK K'
  have rv2 := (rv1.tr hbB).tr hv2
  have hY2 := hY.mono hv2
  try simp only [Act.put, List.setIfInBounds_toArray, List.set_cons_zero, List.set_cons_succ]
  iterate 3
    (refine heldR_quiet (v := ?_) (by rfl) ?_ ?_
     rotate_left
     · intro W hW; obtain ⟨d0, d1, d2, d3, d4, d5⟩ := KR.out W hW; go_simp; (try with_reducible rfl)
     try simp only [Act.put, List.setIfInBounds_toArray, List.set_cons_zero, List.set_cons_succ])
  refine heldR_nil ?_
  intro bl wz hRz hSz hGz
  obtain ⟨b9, hact, hb9, ho9⟩ := good1 hSz hGz
  rw [hact]
  have rvz := rv2.tr hRz
  have hYz := hY2.mono hRz
  have hcan : Canon p (frobL p (addL p fl gl) ml nk) := FO.out _ CA.out nk
  have of9 := off_new ho9 hYz hcan
  have xb9 := box_of_obj ho9
  have g90 := xb9.cell 0 _ rfl
  have g91 := xb9.cell 1 _ rfl
  have z90 := xb9.frozen 0
  have z91 := xb9.frozen 1
  simp only [List.drop_succ_cons, List.drop_zero]
  (try simp only [Act.put, List.setIfInBounds_toArray, List.set_cons_zero, List.set_cons_succ])
  go_wp2
  refine NoPanic.normal ?_
  have hQe : Below w3.drew.heap.size w3.drew ((wz.setCell ⟨b9, 0, none⟩ (.int .u32 (p : Int))).setCell ⟨b9, 1, none⟩ (.slice ra rn rc)) := (((rvz).setCell (p := ⟨b9, 0, none⟩) hb9 _).setCell (p := ⟨b9, 1, none⟩) hb9 _)
  have hQf := btrans (bdrew (Below.refl _ w3)) hQe
  have xx : Box ((wz.setCell ⟨b9, 0, none⟩ (.int .u32 (p : Int))).setCell ⟨b9, 1, none⟩ (.slice ra rn rc)) b9 #[.int .u32 (p : Int), .slice ra rn rc] := xb9.put2 _ _
  have tx : Sl ((wz.setCell ⟨b9, 0, none⟩ (.int .u32 (p : Int))).setCell ⟨b9, 1, none⟩ (.slice ra rn rc)) ra rn rc (frobL p (addL p fl gl) ml nk) := ((hYz.setCell of9 _).setCell of9 _)
  have hx4 := hx3.mono hQf
  generalize hwd : ((wz.setCell ⟨b9, 0, none⟩ (.int .u32 (p : Int))).setCell ⟨b9, 1, none⟩ (.slice ra rn rc)) = wd4 at hx4 xx tx ⊢
  obtain ⟨Bx, hbv⟩ : ∃ b, b = b9 := ⟨_, rfl⟩
  obtain ⟨xA, xN, xC, e1, e2, e3⟩ : ∃ a n c, a = ra ∧ n = rn ∧ c = rc := ⟨_, _, _, rfl, rfl, rfl⟩
  rw [← hbv] at xx ⊢
  rw [← e1, ← e2, ← e3] at xx tx ⊢
  clear hwd hQe hQf hcan of9 ho9 hY2 hYz hY rv2 rvz hv2 hbB hRz hSz hGz hact hb9 xb9 g90 g91 z90 z91 hbA hsA hsA1 lsA rv1 hv1 hv0 KR hfS hgS hmS hxD hbv e1 e2 e3 hx3
  obtain ⟨d0, d1, d2, d3, d4, d5⟩ := K.out wd4 hx4
  go_wp2_with fail
  refine (ppoly_Frob p fa fn fcap fl ma mn mcap ml nk wd4 (hf.mono hx4.below) (hm.mono hx4.below) hpr hp cf cm hmp (by omega) (by omega) (by omega)).mono ?_
  rintro e wc5 ⟨aA, aN, aC, rfl, sa, hba, _⟩
  have hge := (Below.refl wc5.heap.size wc5).alloc (Nat.le_refl _) (.cells #[.int .u32 (p : Int), .slice aA aN aC] 25)
  have hQe := btrans hba hge
  obtain ⟨Ba, hbv⟩ : ∃ b, b = wc5.heap.size := ⟨_, rfl⟩
  have xa := Box.new' wc5 #[.int .u32 (p : Int), .slice aA aN aC] 25 hbv
  have ta := sa.mono hge
  clear d0 d1 d2 d3 d4 d5
  have hx5 := hx4.mono hQe
  have xx := xx.mono hQe
  have tx := tx.mono hQe
  go_upto_region 8 with fail
  rw [← hbv]
  generalize hWE : wc5.alloc (.cells #[.int .u32 (p : Int), .slice aA aN aC] 25) = wd5 at hx5 xx tx xa ta ⊢
  clear hWE hQe hge hba sa hbv hx4
  obtain ⟨d0, d1, d2, d3, d4, d5⟩ := K.out wd5 hx5
  go_wp2_with fail
  refine (ppoly_Frob p ga gn gcap gl ma mn mcap ml nk wd5 (hg.mono hx5.below) (hm.mono hx5.below) hpr hp cg cm hmp (by omega) (by omega) (by omega)).mono ?_
  rintro e wc6 ⟨bA, bN, bC, rfl, sb, hbb, _⟩
  have hge := (Below.refl wc6.heap.size wc6).alloc (Nat.le_refl _) (.cells #[.int .u32 (p : Int), .slice bA bN bC] 25)
  have hQe := btrans hbb hge
  obtain ⟨Bb, hbv⟩ : ∃ b, b = wc6.heap.size := ⟨_, rfl⟩
  have xb := Box.new' wc6 #[.int .u32 (p : Int), .slice bA bN bC] 25 hbv
  have tb := sb.mono hge
  clear d0 d1 d2 d3 d4 d5
  have hx6 := hx5.mono hQe
  have xx := xx.mono hQe
  have tx := tx.mono hQe
  have xa := xa.mono hQe
  have ta := ta.mono hQe
  go_upto_region 9 with fail
  rw [← hbv]
  generalize hWE : wc6.alloc (.cells #[.int .u32 (p : Int), .slice bA bN bC] 25) = wd6 at hx6 xx tx xa ta xb tb ⊢
  clear hWE hQe hge hbb sb hbv hx5
  obtain ⟨d0, d1, d2, d3, d4, d5⟩ := K.out wd6 hx6
  go_upto_region 9 with fail
  clear d0 d1 d2 d3 d4 d5
  have hfS := (hf.mono hx6.below).drew
  have hgS := (hg.mono hx6.below).drew
  have hmS := (hm.mono hx6.below).drew
  have hxD := hx6.drew
  have KR : Hid (∀ W, Below wd6.drew.heap.size wd6.drew W → W.cell? ⟨w.heap.size, 0, none⟩ = some (.int .u32 (p : Int)) ∧ W.cell? ⟨w.heap.size, 1, none⟩ = some (.slice fa fn fcap) ∧ W.cell? ⟨w.heap.size + 1, 0, none⟩ = some (.int .u32 (p : Int)) ∧ W.cell? ⟨w.heap.size + 1, 1, none⟩ = some (.slice ga gn gcap) ∧ W.cell? ⟨w.heap.size + 1 + 1, 0, none⟩ = some (.int .u32 (p : Int)) ∧ W.cell? ⟨w.heap.size + 1 + 1, 1, none⟩ = some (.slice ma mn mcap)) := fun W h => ⟨(hx6.drew.mono h).cell' 0 0 _ _ rfl rfl, (hx6.drew.mono h).cell' 0 1 _ _ rfl rfl, (hx6.drew.mono h).cell' 1 0 _ _ rfl rfl, (hx6.drew.mono h).cell' 1 1 _ _ rfl rfl, (hx6.drew.mono h).cell' 2 0 _ _ rfl rfl, (hx6.drew.mono h).cell' 2 1 _ _ rfl rfl⟩
  refine wp_region_layE [(10, 8)] 10 [(true, 0), (true, 1), (true, 3), (true, 4), (false, 2), (false, 5), (true, 6), (true, 7), (true, 8)] [⟨9, 16, #[.int .u32 0, .slice none 0 0], 25⟩] (by kernel_rfl) (by kernel_rfl) (by kernel_rfl) (fun x hx o ho ρ W => ?_) (fun v0 hv0 => ?_)
  · simp only [List.mem_cons, List.not_mem_nil, or_false] at hx
    subst hx
    all_goals (obtain rfl := Option.some.inj ho; go_simp)
  simp only [pick, List.getElem?_cons_succ, List.getElem?_cons_zero]
  iterate 4
    (refine heldR_quiet (v := ?_) (by rfl) ?_ ?_
     rotate_left
     · intro W hW; obtain ⟨d0, d1, d2, d3, d4, d5⟩ := KR.out W hW; go_simp; (try with_reducible rfl)
     try simp only [Act.put, List.setIfInBounds_toArray, List.set_cons_zero, List.set_cons_succ])
  refine heldR_loud (fun K' hK => ?_)
  go_simp
  refine (ppoly_Mul p fa fn fcap fl ga gn gcap gl (p : Int) v0 (hfS.mono hv0) (hgS.mono hv0) hp0 hp (by omega) (by omega)).mono ?_
  rintro e vA ⟨u1, n1, cc1, rfl, hsA, hbA, _⟩
  refine hK.out _ _ (hbA) (fun v1 hv1 => ?_)
  clear hK K'
  have rv1 := (hv0.tr hbA).tr hv1
  have hsA1 := hsA.mono hv1
  have lsA := hsA1.len
  try simp only [Act.put, List.setIfInBounds_toArray, List.set_cons_zero, List.set_cons_succ]
  refine heldR_loud (fun K' hK => ?_)
  go_simp
  refine (ppoly_Frob p u1 n1 cc1 (mulL p fl gl) ma mn mcap ml nk v1 hsA1 (hmS.mono rv1) hpr hp CM.out cm hmp (by omega) (by omega) (by omega)).mono ?_
  rintro e vB ⟨ra, rn, rc, rfl, hY, hbB, _⟩
  refine hK.out _ _ (hbB) (fun v2 hv2 => ?_)
  clear hK K'
  have rv2 := (rv1.tr hbB).tr hv2
  have hY2 := hY.mono hv2
  try simp only [Act.put, List.setIfInBounds_toArray, List.set_cons_zero, List.set_cons_succ]
  iterate 3
    (refine heldR_quiet (v := ?_) (by rfl) ?_ ?_
     rotate_left
     · intro W hW; obtain ⟨d0, d1, d2, d3, d4, d5⟩ := KR.out W hW; go_simp; (try with_reducible rfl)
     try simp only [Act.put, List.setIfInBounds_toArray, List.set_cons_zero, List.set_cons_succ])
  refine heldR_nil ?_
  intro bl wz hRz hSz hGz
  obtain ⟨b9, hact, hb9, ho9⟩ := good1 hSz hGz
  rw [hact]
  have rvz := rv2.tr hRz
  have hYz := hY2.mono hRz
  have hcan : Canon p (frobL p (mulL p fl gl) ml nk) := FO.out _ CM.out nk
  have of9 := off_new ho9 hYz hcan
  have xb9 := box_of_obj ho9
  have g90 := xb9.cell 0 _ rfl
  have g91 := xb9.cell 1 _ rfl
  have z90 := xb9.frozen 0
  have z91 := xb9.frozen 1
  simp only [List.drop_succ_cons, List.drop_zero]
  (try simp only [Act.put, List.setIfInBounds_toArray, List.set_cons_zero, List.set_cons_succ])
  go_wp2
  refine NoPanic.normal ?_
  have hQe : Below wd6.drew.heap.size wd6.drew ((wz.setCell ⟨b9, 0, none⟩ (.int .u32 (p : Int))).setCell ⟨b9, 1, none⟩ (.slice ra rn rc)) := (((rvz).setCell (p := ⟨b9, 0, none⟩) hb9 _).setCell (p := ⟨b9, 1, none⟩) hb9 _)
  have hQf := btrans (bdrew (Below.refl _ wd6)) hQe
  have xy : Box ((wz.setCell ⟨b9, 0, none⟩ (.int .u32 (p : Int))).setCell ⟨b9, 1, none⟩ (.slice ra rn rc)) b9 #[.int .u32 (p : Int), .slice ra rn rc] := xb9.put2 _ _
  have ty : Sl ((wz.setCell ⟨b9, 0, none⟩ (.int .u32 (p : Int))).setCell ⟨b9, 1, none⟩ (.slice ra rn rc)) ra rn rc (frobL p (mulL p fl gl) ml nk) := ((hYz.setCell of9 _).setCell of9 _)
  have hx7 := hx6.mono hQf
  have xx := xx.mono hQf
  have tx := tx.mono hQf
  have xa := xa.mono hQf
  have ta := ta.mono hQf
  have xb := xb.mono hQf
  have tb := tb.mono hQf
  generalize hwd : ((wz.setCell ⟨b9, 0, none⟩ (.int .u32 (p : Int))).setCell ⟨b9, 1, none⟩ (.slice ra rn rc)) = wd7 at hx7 xx tx xa ta xb tb xy ty ⊢
  obtain ⟨By, hbv⟩ : ∃ b, b = b9 := ⟨_, rfl⟩
  obtain ⟨yA, yN, yC, e1, e2, e3⟩ : ∃ a n c, a = ra ∧ n = rn ∧ c = rc := ⟨_, _, _, rfl, rfl, rfl⟩
  rw [← hbv] at xy ⊢
  rw [← e1, ← e2, ← e3] at xy ty ⊢
  clear hwd hQe hQf hcan of9 ho9 hY2 hYz hY rv2 rvz hv2 hbB hRz hSz hGz hact hb9 xb9 g90 g91 z90 z91 hbA hsA hsA1 lsA rv1 hv1 hv0 KR hfS hgS hmS hxD hbv e1 e2 e3 hx6
  obtain ⟨d0, d1, d2, d3, d4, d5⟩ := K.out wd7 hx7
  have lna := ta.len
  have lnb := tb.len
  have fna := FL.out fl cf nk
  have fnb := FL.out gl cg nk
  have LMM := mulL_len p (frobL p fl ml nk) (frobL p gl ml nk)
  have CMM := Alg.hid (mulL_ok (p := p) (frobL p fl ml nk) (frobL p gl ml nk)).2
  have CR : Hid (Canon p (remL p (mulL p (frobL p fl ml nk) (frobL p gl ml nk)) ml)) := (remL_md hpr CMM.out cm HML.out).canon
  go_upto_region 10 with fail
  clear d0 d1 d2 d3 d4 d5
  have hfS := (hf.mono hx7.below).drew
  have hgS := (hg.mono hx7.below).drew
  have hmS := (hm.mono hx7.below).drew
  have hxD := hx7.drew
  have KR : Hid (∀ W, Below wd7.drew.heap.size wd7.drew W → W.cell? ⟨w.heap.size, 0, none⟩ = some (.int .u32 (p : Int)) ∧ W.cell? ⟨w.heap.size, 1, none⟩ = some (.slice fa fn fcap) ∧ W.cell? ⟨w.heap.size + 1, 0, none⟩ = some (.int .u32 (p : Int)) ∧ W.cell? ⟨w.heap.size + 1, 1, none⟩ = some (.slice ga gn gcap) ∧ W.cell? ⟨w.heap.size + 1 + 1, 0, none⟩ = some (.int .u32 (p : Int)) ∧ W.cell? ⟨w.heap.size + 1 + 1, 1, none⟩ = some (.slice ma mn mcap) ∧ W.cell? ⟨Ba, 0, none⟩ = some (.int .u32 (p : Int)) ∧ W.cell? ⟨Ba, 1, none⟩ = some (.slice aA aN aC) ∧ W.cell? ⟨Bb, 0, none⟩ = some (.int .u32 (p : Int)) ∧ W.cell? ⟨Bb, 1, none⟩ = some (.slice bA bN bC)) := fun W h => ⟨(hx7.drew.mono h).cell' 0 0 _ _ rfl rfl, (hx7.drew.mono h).cell' 0 1 _ _ rfl rfl, (hx7.drew.mono h).cell' 1 0 _ _ rfl rfl, (hx7.drew.mono h).cell' 1 1 _ _ rfl rfl, (hx7.drew.mono h).cell' 2 0 _ _ rfl rfl, (hx7.drew.mono h).cell' 2 1 _ _ rfl rfl, (xa.drew.mono h).cell 0 _ rfl, (xa.drew.mono h).cell 1 _ rfl, (xb.drew.mono h).cell 0 _ rfl, (xb.drew.mono h).cell 1 _ rfl⟩
  have taS := ta.drew
  have tbS := tb.drew
  refine wp_region_layE [(11, 7), (11, 8)] 11 [(true, 0), (true, 1), (true, 3), (false, 2), (false, 4), (true, 5), (true, 6), (true, 7), (true, 8)] [⟨9, 18, #[.int .u32 0, .slice none 0 0], 25⟩, ⟨10, 19, #[.int .u32 0, .slice none 0 0], 25⟩] (by kernel_rfl) (by kernel_rfl) (by kernel_rfl) (fun x hx o ho ρ W => ?_) (fun v0 hv0 => ?_)
  · simp only [List.mem_cons, List.not_mem_nil, or_false] at hx
    rcases hx with rfl | rfl
    all_goals (obtain rfl := Option.some.inj ho; go_simp)
  simp only [pick, List.getElem?_cons_succ, List.getElem?_cons_zero]
  iterate 3
    (refine heldR_quiet (v := ?_) (by rfl) ?_ ?_
     rotate_left
     · intro W hW; obtain ⟨d0, d1, d2, d3, d4, d5, fa0, fa1, fb0, fb1⟩ := KR.out W hW; go_simp; (try with_reducible rfl)
     try simp only [Act.put, List.setIfInBounds_toArray, List.set_cons_zero, List.set_cons_succ])
  refine heldR_loud (fun K' hK => ?_)
  go_simp
  refine (ppoly_Mul p aA aN aC (frobL p fl ml nk) bA bN bC (frobL p gl ml nk) (p : Int) v0 (taS.mono hv0) (tbS.mono hv0) hp0 hp (by omega) (by omega)).mono ?_
  rintro e vA ⟨u1, n1, cc1, rfl, hsA, hbA, _⟩
  refine hK.out _ _ (hbA) (fun v1 hv1 => ?_)
  clear hK K'
  have rv1 := (hv0.tr hbA).tr hv1
  have hsA1 := hsA.mono hv1
  have lsA := hsA1.len
  try simp only [Act.put, List.setIfInBounds_toArray, List.set_cons_zero, List.set_cons_succ]
  refine heldR_loud (fun K' hK => ?_)
  go_simp
  refine (ppoly_DivMod p u1 n1 cc1 (mulL p (frobL p fl ml nk) (frobL p gl ml nk)) ma mn mcap ml (p : Int) v1 hsA1 (hmS.mono rv1) hmp HLEAD.out hp1 hp (by omega) (by omega)).mono ?_
  rintro e vB ⟨qa, qn, qc, ra, rn, rc, rfl, _, hY, hbB, _, _⟩
  refine hK.out _ _ (hbB) (fun v2 hv2 => ?_)
  clear hK K'
  have rv2 := (rv1.tr hbB).tr hv2
  have hY2 := hY.mono hv2
  try simp only [Act.put, List.setIfInBounds_toArray, List.set_cons_zero, List.set_cons_succ]
  iterate 4
    (refine heldR_quiet (v := ?_) (by rfl) ?_ ?_
     rotate_left
     · intro W hW; obtain ⟨d0, d1, d2, d3, d4, d5, fa0, fa1, fb0, fb1⟩ := KR.out W hW; go_simp; (try with_reducible rfl)
     try simp only [Act.put, List.setIfInBounds_toArray, List.set_cons_zero, List.set_cons_succ])
  refine heldR_nil ?_
  intro bl wz hRz hSz hGz
  obtain ⟨b8, b9, hact, hne89, hb8, hb9, ho8, ho9⟩ := good2 (by decide) hSz hGz
  have hne98 : b9 ≠ b8 := fun e => hne89 e.symm
  rw [hact]
  have rvz := rv2.tr hRz
  have hYz := hY2.mono hRz
  have hcan : Canon p (remL p (mulL p (frobL p fl ml nk) (frobL p gl ml nk)) ml) := CR.out
  have of9 := off_new ho9 hYz hcan
  have of8 := off_new ho8 hYz hcan
  have xb8 := box_of_obj ho8
  have g80 := xb8.cell 0 _ rfl
  have g81 := xb8.cell 1 _ rfl
  have z80 := xb8.frozen 0
  have z81 := xb8.frozen 1
  have xb9 := box_of_obj ho9
  have g90 := xb9.cell 0 _ rfl
  have g91 := xb9.cell 1 _ rfl
  have z90 := xb9.frozen 0
  have z91 := xb9.frozen 1
  simp only [List.drop_succ_cons, List.drop_zero]
  (try simp only [Act.put, List.setIfInBounds_toArray, List.set_cons_zero, List.set_cons_succ])
  go_wp2
  refine NoPanic.normal ?_
  have hQe : Below wd7.drew.heap.size wd7.drew ((((wz.setCell ⟨b8, 0, none⟩ (.int .u32 (p : Int))).setCell ⟨b8, 1, none⟩ (.slice qa qn qc)).setCell ⟨b9, 0, none⟩ (.int .u32 (p : Int))).setCell ⟨b9, 1, none⟩ (.slice ra rn rc)) := ((((((rvz).setCell (p := ⟨b8, 0, none⟩) hb8 _).setCell (p := ⟨b8, 1, none⟩) hb8 _)).setCell (p := ⟨b9, 0, none⟩) hb9 _).setCell (p := ⟨b9, 1, none⟩) hb9 _)
  have hQf := btrans (bdrew (Below.refl _ wd7)) hQe
  have xc : Box ((((wz.setCell ⟨b8, 0, none⟩ (.int .u32 (p : Int))).setCell ⟨b8, 1, none⟩ (.slice qa qn qc)).setCell ⟨b9, 0, none⟩ (.int .u32 (p : Int))).setCell ⟨b9, 1, none⟩ (.slice ra rn rc)) b9 #[.int .u32 (p : Int), .slice ra rn rc] := (xb9.other2 hne98 _ _).put2 _ _
  have tc : Sl ((((wz.setCell ⟨b8, 0, none⟩ (.int .u32 (p : Int))).setCell ⟨b8, 1, none⟩ (.slice qa qn qc)).setCell ⟨b9, 0, none⟩ (.int .u32 (p : Int))).setCell ⟨b9, 1, none⟩ (.slice ra rn rc)) ra rn rc (remL p (mulL p (frobL p fl ml nk) (frobL p gl ml nk)) ml) := ((((hYz.setCell of8 _).setCell of8 _).setCell of9 _).setCell of9 _)
  have hx8 := hx7.mono hQf
  have xx := xx.mono hQf
  have tx := tx.mono hQf
  have xa := xa.mono hQf
  have ta := ta.mono hQf
  have xb := xb.mono hQf
  have tb := tb.mono hQf
  have xy := xy.mono hQf
  have ty := ty.mono hQf
  generalize hwd : ((((wz.setCell ⟨b8, 0, none⟩ (.int .u32 (p : Int))).setCell ⟨b8, 1, none⟩ (.slice qa qn qc)).setCell ⟨b9, 0, none⟩ (.int .u32 (p : Int))).setCell ⟨b9, 1, none⟩ (.slice ra rn rc)) = wd8 at hx8 xx tx xa ta xb tb xy ty xc tc ⊢
  obtain ⟨Bc, hbv⟩ : ∃ b, b = b9 := ⟨_, rfl⟩
  obtain ⟨cA, cN, cC, e1, e2, e3⟩ : ∃ a n c, a = ra ∧ n = rn ∧ c = rc := ⟨_, _, _, rfl, rfl, rfl⟩
  rw [← hbv] at xc ⊢
  rw [← e1, ← e2, ← e3] at xc tc ⊢
  clear hwd hQe hQf hcan of9 ho9 hY2 hYz hY rv2 rvz hv2 hbB hRz hSz hGz hact hb9 xb9 g90 g91 z90 z91 hbA hsA hsA1 lsA rv1 hv1 hv0 KR hfS hgS hmS hxD hbv e1 e2 e3 hx7 of8 hb8 ho8 hne89 hne98 xb8 g80 g81 z80 z81 taS tbS
  obtain ⟨d0, d1, d2, d3, d4, d5⟩ := K.out wd8 hx8
  have ea0 := xa.cell 0 _ rfl
  have ea1 := xa.cell 1 _ rfl
  go_wp2_with fail
  refine (ppoly_Frob p aA aN aC (frobL p fl ml nk) ma mn mcap ml 1 wd8 ta (hm.mono hx8.below) hpr hp (FO.out _ cf nk) cm hmp (by omega) (by omega) (by omega)).mono ?_
  rintro e wc9 ⟨zA, zN, zC, rfl, sz, hbz, _⟩
  have hge := (Below.refl wc9.heap.size wc9).alloc (Nat.le_refl _) (.cells #[.int .u32 (p : Int), .slice zA zN zC] 25)
  have hQe := btrans hbz hge
  obtain ⟨Bz, hbv⟩ : ∃ b, b = wc9.heap.size := ⟨_, rfl⟩
  have xz := Box.new' wc9 #[.int .u32 (p : Int), .slice zA zN zC] 25 hbv
  have tz := sz.mono hge
  clear ea0 ea1
  clear d0 d1 d2 d3 d4 d5
  have hx9 := hx8.mono hQe
  have xx := xx.mono hQe
  have tx := tx.mono hQe
  have xa := xa.mono hQe
  have ta := ta.mono hQe
  have xb := xb.mono hQe
  have tb := tb.mono hQe
  have xy := xy.mono hQe
  have ty := ty.mono hQe
  have xc := xc.mono hQe
  have tc := tc.mono hQe
  go_upto_region 12 with fail
  rw [← hbv]
  generalize hWE : wc9.alloc (.cells #[.int .u32 (p : Int), .slice zA zN zC] 25) = wd9 at hx9 xx tx xa ta xb tb xy ty xc tc xz tz ⊢
  clear hWE hQe hge hbz sz hbv hx8
  obtain ⟨d0, d1, d2, d3, d4, d5⟩ := K.out wd9 hx9
  have hn1 : ((nk + 1 : Nat) : Int) = (nk : Int) + 1 := by omega
  have HCU := ppoly_Frob p fa fn fcap fl ma mn mcap ml (nk + 1) wd9 (hf.mono hx9.below) (hm.mono hx9.below) hpr hp cf cm hmp (by omega) (by omega) (by omega)
  rw [hn1] at HCU
  go_wp2_with fail
  refine (HCU).mono ?_
  rintro e wc10 ⟨uA, uN, uC, rfl, su, hbu, _⟩
  have hge := (Below.refl wc10.heap.size wc10).alloc (Nat.le_refl _) (.cells #[.int .u32 (p : Int), .slice uA uN uC] 25)
  have hQe := btrans hbu hge
  obtain ⟨Bu, hbv⟩ : ∃ b, b = wc10.heap.size := ⟨_, rfl⟩
  have xu := Box.new' wc10 #[.int .u32 (p : Int), .slice uA uN uC] 25 hbv
  have tu := su.mono hge
  clear d0 d1 d2 d3 d4 d5
  have hx10 := hx9.mono hQe
  have xx := xx.mono hQe
  have tx := tx.mono hQe
  have xa := xa.mono hQe
  have ta := ta.mono hQe
  have xb := xb.mono hQe
  have tb := tb.mono hQe
  have xy := xy.mono hQe
  have ty := ty.mono hQe
  have xc := xc.mono hQe
  have tc := tc.mono hQe
  have xz := xz.mono hQe
  have tz := tz.mono hQe
  go_upto_region 13 with fail
  rw [← hbv]
  generalize hWE : wc10.alloc (.cells #[.int .u32 (p : Int), .slice uA uN uC] 25) = wd10 at hx10 xx tx xa ta xb tb xy ty xc tc xz tz xu tu ⊢
  clear hWE hQe hge hbu su hbv hx9
  have lx := tx.len
  have la := ta.len
  have lb := tb.len
  have ly := ty.len
  have lc := tc.len
  have lz := tz.len
  have lu := tu.len
  have fx1 := FL.out (addL p fl gl) CA.out nk
  have fy1 := FL.out (mulL p fl gl) CM.out nk
  have fz1 := FL.out (frobL p fl ml nk) (FO.out fl cf nk) 1
  have S1 : Hid (sameB p (frobL p (addL p fl gl) ml nk) p (addL p (frobL p fl ml nk) (frobL p gl ml nk)) = true) := sameB_true.2 ⟨rfl, FS.out⟩
  have S2 : Hid (sameB p (frobL p (mulL p fl gl) ml nk) p (remL p (mulL p (frobL p fl ml nk) (frobL p gl ml nk)) ml) = true) := sameB_true.2 ⟨rfl, FP.out⟩
  have S3 : Hid (sameB p (frobL p (frobL p fl ml nk) ml 1) p (frobL p fl ml (nk + 1)) = true) := sameB_true.2 ⟨rfl, FA.out⟩
  have KR : Hid (∀ W, Below wd10.heap.size wd10 W → W.cell? ⟨Bx, 0, none⟩ = some (.int .u32 (p : Int)) ∧ W.cell? ⟨Bx, 1, none⟩ = some (.slice xA xN xC) ∧ W.cell? ⟨Ba, 0, none⟩ = some (.int .u32 (p : Int)) ∧ W.cell? ⟨Ba, 1, none⟩ = some (.slice aA aN aC) ∧ W.cell? ⟨Bb, 0, none⟩ = some (.int .u32 (p : Int)) ∧ W.cell? ⟨Bb, 1, none⟩ = some (.slice bA bN bC) ∧ W.cell? ⟨By, 0, none⟩ = some (.int .u32 (p : Int)) ∧ W.cell? ⟨By, 1, none⟩ = some (.slice yA yN yC) ∧ W.cell? ⟨Bc, 0, none⟩ = some (.int .u32 (p : Int)) ∧ W.cell? ⟨Bc, 1, none⟩ = some (.slice cA cN cC) ∧ W.cell? ⟨Bz, 0, none⟩ = some (.int .u32 (p : Int)) ∧ W.cell? ⟨Bz, 1, none⟩ = some (.slice zA zN zC) ∧ W.cell? ⟨Bu, 0, none⟩ = some (.int .u32 (p : Int)) ∧ W.cell? ⟨Bu, 1, none⟩ = some (.slice uA uN uC)) := fun W h => ⟨(xx.mono h).cell 0 _ rfl, (xx.mono h).cell 1 _ rfl, (xa.mono h).cell 0 _ rfl, (xa.mono h).cell 1 _ rfl, (xb.mono h).cell 0 _ rfl, (xb.mono h).cell 1 _ rfl, (xy.mono h).cell 0 _ rfl, (xy.mono h).cell 1 _ rfl, (xc.mono h).cell 0 _ rfl, (xc.mono h).cell 1 _ rfl, (xz.mono h).cell 0 _ rfl, (xz.mono h).cell 1 _ rfl, (xu.mono h).cell 0 _ rfl, (xu.mono h).cell 1 _ rfl⟩
  have hR0 : Below wd10.heap.size wd10 wd10.drew := bdrew (Below.refl _ _)
  refine wp_region_noPanic ?_
  refine wp_region_held2 23 [(1, 0), (1, 1), (1, 2), (1, 3), (1, 4), (1, 5), (1, 6), (1, 7), (1, 8), (1, 9), (0, 10), (0, 11), (1, 12), (1, 13), (1, 14), (1, 15), (0, 16), (1, 17), (1, 18), (1, 19), (1, 20), (0, 21), (1, 22), (3, 23)] (fun W => W.cell? ⟨Bx, 0, none⟩ = some (.int .u32 (p : Int)) ∧ W.cell? ⟨Bx, 1, none⟩ = some (.slice xA xN xC) ∧ W.cell? ⟨Ba, 0, none⟩ = some (.int .u32 (p : Int)) ∧ W.cell? ⟨Ba, 1, none⟩ = some (.slice aA aN aC) ∧ W.cell? ⟨Bb, 0, none⟩ = some (.int .u32 (p : Int)) ∧ W.cell? ⟨Bb, 1, none⟩ = some (.slice bA bN bC) ∧ W.cell? ⟨By, 0, none⟩ = some (.int .u32 (p : Int)) ∧ W.cell? ⟨By, 1, none⟩ = some (.slice yA yN yC) ∧ W.cell? ⟨Bc, 0, none⟩ = some (.int .u32 (p : Int)) ∧ W.cell? ⟨Bc, 1, none⟩ = some (.slice cA cN cC) ∧ W.cell? ⟨Bz, 0, none⟩ = some (.int .u32 (p : Int)) ∧ W.cell? ⟨Bz, 1, none⟩ = some (.slice zA zN zC) ∧ W.cell? ⟨Bu, 0, none⟩ = some (.int .u32 (p : Int)) ∧ W.cell? ⟨Bu, 1, none⟩ = some (.slice uA uN uC)) (fun _ => True) (by kernel_rfl) (by kernel_rfl) (fun _ _ _ _ _ h => h) (fun _ _ => trivial) (KR.out _ hR0) (fun _ => ?_)
  simp only [pick2, List.getElem?_cons_succ, List.getElem?_cons_zero]
  iterate 10
    (refine held2_early (v := ?_) (by rfl) ?_ ?_
     rotate_left
     · intro W hSw; (try dsimp only at hSw); go_simp; (try with_reducible rfl)
     try simp only [Act.put, List.setIfInBounds_toArray, List.set_cons_zero, List.set_cons_succ])
  refine held2_loud (fun K' hK => ?_)
  go_simp
  refine (ppoly_AddL p aA aN aC (frobL p fl ml nk) bA bN bC (frobL p gl ml nk) (p : Int) _ (ta.mono hR0) (tb.mono hR0) hp0 hp (by omega) (by omega)).mono ?_
  rintro e wA ⟨va, vn, vc, rfl, sv, hbA, _⟩
  have hRA := btrans hR0 hbA
  refine hK.out _ _ (KR.out _ hRA) (fun _ => ?_)
  clear hK K'
  try simp only [Act.put, List.setIfInBounds_toArray, List.set_cons_zero, List.set_cons_succ]
  refine held2_loud (fun K' hK => ?_)
  go_simp
  refine (ref_Same p xA xN xC _ p va vn vc _ wA (tx.mono hRA) sv (by omega)).mono ?_
  rw [S1.out]
  rintro e wB ⟨rfl, hbB⟩
  have hRB := btrans hRA hbB
  refine hK.out _ _ (KR.out _ hRB) (fun _ => ?_)
  clear hK K'
  try simp only [Act.put, List.setIfInBounds_toArray, List.set_cons_zero, List.set_cons_succ]
  iterate 4
    (refine held2_early (v := ?_) (by rfl) ?_ ?_
     rotate_left
     · intro W hSw; (try dsimp only at hSw); go_simp; (try with_reducible rfl)
     try simp only [Act.put, List.setIfInBounds_toArray, List.set_cons_zero, List.set_cons_succ])
  refine held2_loud (fun K' hK => ?_)
  go_simp
  refine (ref_Same p yA yN yC _ p cA cN cC _ wB (ty.mono hRB) (tc.mono hRB) (by omega)).mono ?_
  rw [S2.out]
  rintro e wC ⟨rfl, hbC⟩
  have hRC := btrans hRB hbC
  refine hK.out _ _ (KR.out _ hRC) (fun _ => ?_)
  clear hK K'
  try simp only [Act.put, List.setIfInBounds_toArray, List.set_cons_zero, List.set_cons_succ]
  iterate 4
    (refine held2_early (v := ?_) (by rfl) ?_ ?_
     rotate_left
     · intro W hSw; (try dsimp only at hSw); go_simp; (try with_reducible rfl)
     try simp only [Act.put, List.setIfInBounds_toArray, List.set_cons_zero, List.set_cons_succ])
  refine held2_loud (fun K' hK => ?_)
  go_simp
  refine (ref_Same p zA zN zC _ p uA uN uC _ wC (tz.mono hRC) (tu.mono hRC) (by omega)).mono ?_
  rw [S3.out]
  rintro e wD ⟨rfl, hbD⟩
  have hRD := btrans hRC hbD
  refine hK.out _ _ (KR.out _ hRD) (fun _ => ?_)
  clear hK K'
  try simp only [Act.put, List.setIfInBounds_toArray, List.set_cons_zero, List.set_cons_succ]
  iterate 1
    (refine held2_early (v := ?_) (by rfl) ?_ ?_
     rotate_left
     · intro W hSw; (try dsimp only at hSw); go_simp; (try with_reducible rfl)
     try simp only [Act.put, List.setIfInBounds_toArray, List.set_cons_zero, List.set_cons_succ])
  refine held2_store (fun K' hK => ?_)
  go_simp
  refine hK.out _ _ trivial (fun _ => ?_)
  clear hK K'
  try simp only [Act.put, List.setIfInBounds_toArray, List.set_cons_zero, List.set_cons_succ]
  refine held2_nil ?_
  refine NoPanic.normal ?_
  go_wp2
  go_ret
  exact ⟨rfl, (hx10.mono hRD).below⟩
end Go.Proofs.YtcefhnmhcapccaaDoor
