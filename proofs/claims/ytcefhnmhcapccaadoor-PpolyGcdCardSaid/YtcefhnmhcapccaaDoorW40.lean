/- The walk of PpolyGcd, given modp.Field's contract. -/
import Derived.Test.YtcefhnmhcapccaaDoorW39
import Derived.Test.YtcefhnmhcapccaaDoorW31
open Alg Go Go.RowKit
namespace Alg
/-- a box with all its cells told -/
def BoxX (W : World) (b : Nat) (cs : Array Value) : Prop := b < W.heap.size ∧ ∀ i, W.cell? ⟨b, i, none⟩ = cs[i]?
theorem BoxX.new' (W : World) (cs : Array Value) (T : TypeId) {b : Nat} (hb : b = W.heap.size) : BoxX (W.alloc (.cells cs T)) b cs := by
  subst hb
  exact ⟨by rw [World.size_alloc]; omega, fun i => by rw [cell_box]⟩
theorem BoxX.mono {W W' : World} {b : Nat} {cs : Array Value} (h : BoxX W b cs) (hb : Below W.heap.size W W') : BoxX W' b cs :=
  ⟨Nat.lt_of_lt_of_le h.1 hb.size, fun i => (hb.cell (p := ⟨b, i, none⟩) h.1).trans (h.2 i)⟩
theorem BoxX.drew {W : World} {b : Nat} {cs : Array Value} (h : BoxX W b cs) : BoxX W.drew b cs := h.mono (bdrew (Below.refl _ W))
theorem BoxX.alloc {W : World} {b : Nat} {cs : Array Value} (h : BoxX W b cs) (o : Obj) : BoxX (W.alloc o) b cs := h.mono (balloc (Below.refl _ W) o)
theorem BoxX.off {W : World} {b p : Nat} {cs : Array Value} {a : Option Addr} {n c : Nat} {l : List Nat} (h : BoxX W b cs) (s : Sl W a n c l) (cl : Canon p l) (v : Value) (h0 : cs = #[.int .u32 0, v]) (hv : v = .slice none 0 0) : Off a n b := by
  subst h0 hv
  rcases s.rd with h1 | ⟨b', off, rfl, hc⟩
  · exact Or.inl h1
  by_cases hn : n = 0
  · exact Or.inl hn
  refine Or.inr (fun b2 o2 s2 he hb => ?_)
  simp only [Option.some.injEq, Addr.mk.injEq] at he
  obtain ⟨rfl, _, _⟩ := he
  subst hb
  have h2 := (h.2 _).symm.trans (hc (n - 1) (by omega))
  have hl := s.len
  have h3 : nth l (n - 1) ≠ 0 := by
    rcases cl.top with h | h
    · rw [h] at hl; simp at hl; omega
    · rw [← hl]; exact h
  generalize off + (n - 1) = j at h2
  match j, h2 with
  | 0, h2 => simp at h2; omega
  | 1, h2 => simp at h2
  | j + 2, h2 => simp at h2
theorem gloop_len {p N : Nat} : ∀ (k : Nat) (x y : T3), GLen N x y → (gloop p k x y).G.length ≤ N ∧ (gloop p k x y).U.length ≤ N ∧ (gloop p k x y).V.length ≤ N
  | 0, x, y, h => by
    have h1 := h.a
    have h2 := h.b
    have h3 := h.c
    unfold gloop
    exact ⟨by omega, by omega, by omega⟩
  | k + 1, x, y, h => by
    unfold gloop
    split
    · have h1 := h.a
      have h2 := h.b
      have h3 := h.c
      exact ⟨by omega, by omega, by omega⟩
    · rename_i h0
      exact gloop_len k _ _ (h.step h0)
theorem gcdL_len (p : Nat) (f g : List Nat) : (gcdL p f g).G.length ≤ f.length + g.length + 1 ∧ (gcdL p f g).U.length ≤ f.length + g.length + 1 ∧ (gcdL p f g).V.length ≤ f.length + g.length + 1 := by
  have h : (gcd0 p f g).G.length ≤ f.length + g.length + 1 ∧ (gcd0 p f g).U.length ≤ f.length + g.length + 1 ∧ (gcd0 p f g).V.length ≤ f.length + g.length + 1 := by
    unfold gcd0
    apply gloop_len
    refine ⟨?_, ?_, ?_, ?_, ?_, ?_⟩ <;> simp <;> omega
  unfold gcdL gfin
  split
  · exact h
  · have a1 := fun c l => scL_len p c l
    exact ⟨Nat.le_trans (a1 _ _) h.1, Nat.le_trans (a1 _ _) h.2.1, Nat.le_trans (a1 _ _) h.2.2⟩
end Alg
namespace Go.Proofs.YtcefhnmhcapccaaDoor
open Go.RowKit
set_option maxRecDepth 100000 in
set_option maxHeartbeats 1500000 in
theorem gcd_walk (hA : Awake) (p : Nat) (fa : Option Addr) (fn fcap : Nat) (fl : List Nat) (q : Nat) (ga : Option Addr) (gn gcap : Nat) (gl : List Nat) (r : Nat) (ha : Option Addr) (hn hcap : Nat) (hl : List Nat) (w : World) (hf : Sl w fa fn fcap fl) (hg : Sl w ga gn gcap gl) (hh : Sl w ha hn hcap hl) (hp : p < 4294967296) (hq : q < 4294967296) (hr : r < 4294967296) (hFC : ∀ p, IsPr p → p < 2147483648 → FieldC w p) :
    Calls Tryd.prog 4 #[.agg #[.int .u32 (p : Int), .slice fa fn fcap], .agg #[.int .u32 (q : Int), .slice ga gn gcap], .agg #[.int .u32 (r : Int), .slice ha hn hcap]] w fun e w' => e = .returned (.bool true) ∧ Below w.heap.size w w' := by
  have hbx := boxes3 w #[.int .u32 (p : Int), .slice fa fn fcap] #[.int .u32 (q : Int), .slice ga gn gcap] #[.int .u32 (r : Int), .slice ha hn hcap] 25 25 25
  have HFC := Alg.hid hFC
  clear hFC
  go_enter Tryd.func4, Tryd.ntmps4
  go_wp2_with fail
  refine (hA _).mono ?_
  rintro e w1 ⟨rfl, hb1⟩
  have hx1 := hbx.mono hb1
  clear hbx
  obtain ⟨d0, d1⟩ := hx1.at0 rfl
  obtain ⟨d2, d3⟩ := hx1.at1 rfl
  go_wp2_with fail
  refine (ref_Pair p fa fn fcap fl q ga gn gcap gl 12 w1 (hf.mono hx1.below) (hg.mono hx1.below) hp hq (by omega)).mono ?_
  rintro e w2 ⟨rfl, hb2⟩
  have hx2 := hx1.mono hb2
  clear d0 d1 d2 d3 hx1
  cases hpb : pairB p fl q gl 12 with
  | false =>
    go_wp2
    go_ret
    exact ⟨rfl, hx2.below⟩
  | true =>
  obtain ⟨rfl, lf, lg, cf, cg, hpr, hp2⟩ := pairB_true hpb
  clear hpb
  obtain ⟨d0, d1⟩ := hx2.at0 rfl
  have d2 : w2.cell? ⟨w.heap.size + 1 + 1, 0, none⟩ = some (.int .u32 (r : Int)) := hx2.cell' 2 0 _ _ rfl rfl
  have d3 : w2.cell? ⟨w.heap.size + 1 + 1, 1, none⟩ = some (.slice ha hn hcap) := hx2.cell' 2 1 _ _ rfl rfl
  go_wp2_with fail
  refine (ref_Pair p fa fn fcap fl r ha hn hcap hl 6 w2 (hf.mono hx2.below) (hh.mono hx2.below) hp hr (by omega)).mono ?_
  rintro e w3 ⟨rfl, hb3⟩
  have hx3 := hx2.mono hb3
  clear d0 d1 d2 d3 hx2
  cases hpb : pairB p fl r hl 6 with
  | false =>
    go_wp2
    go_ret
    exact ⟨rfl, hx3.below⟩
  | true =>
  obtain ⟨rfl, _, lh, _, ch, _, _⟩ := pairB_true hpb
  clear hpb
  rw [hf.len] at lf
  rw [hg.len] at lg
  rw [hh.len] at lh
  have hp1 : 1 < p := hpr.1
  have hp0 : 0 < p := by omega
  haveI hne : NeZero p := ⟨by omega⟩
  have HF := Alg.hid (HFC.out p hpr hp2)
  clear HFC
  have ES : Hid (∀ l, sameB p l p l = true) := fun l => sameB_true.2 ⟨rfl, rfl⟩
  have ef := hf.len
  have eg := hg.len
  have eh := hh.len
  have GL := Alg.hid (gcdL_len p fl gl)
  have HB := Alg.hid (holdsB_gcd hpr hp2 cf cg)
  have OK := Alg.hid (gcdL_ok hpr fl gl cf cg)
  have FK := Alg.hid (gcd_factor (h := hl) hpr cf cg)
  have cF := Alg.hid (mulL_ok (p := p) fl hl).2
  have cG := Alg.hid (mulL_ok (p := p) gl hl).2
  have M1 := Alg.hid (mulL_len p fl hl)
  have M2 := Alg.hid (mulL_len p gl hl)
  have M3 := Alg.hid (mulL_len p (gcdL p fl gl).G hl)
  have hhl := Alg.hid (nth_lt ch)
  have HD := Alg.hid (nth_lt OK.out.1.cg)
  have HR : Hid (holdsR p fl p gl p (gcdL p fl gl).G p (gcdL p fl gl).U p (gcdL p fl gl).V = true) := by
    haveI := Fp.isFd hpr
    have r := fun (l : List Nat) (c : Canon p l) => rightB_true.2 ⟨c, hpr, hp2⟩
    have h1 := OK.out.1
    show _ = _
    simp only [holdsR, decide_true, Bool.true_and, r fl cf, r gl cg, r _ h1.cg, r _ h1.cu, r _ h1.cv, ES.out, addL_comb h1.cg h1.comb]
  obtain ⟨d0, d1⟩ := hx3.at0 rfl
  obtain ⟨d2, d3⟩ := hx3.at1 rfl
  go_wp2_with fail
  refine (ppoly_Gcd p fa fn fcap fl ga gn gcap gl w3 (hf.mono hx3.below) (hg.mono hx3.below) hpr hp (by omega) (by omega) cf cg).mono ?_
  rintro e w4 ⟨a1, n1, c1, a2, n2, c2, a3, n3, c3, rfl, hT, hb4⟩
  have hx4 := hx3.mono hb4
  have l1 := hT.g.len
  have l2 := hT.u.len
  have l3 := hT.v.len
  have gl0 := GL.out
  have bq := boxes1 w4 (tri p a1 n1 c1 a2 n2 c2 a3 n3 c3) 35
  go_upto_region 6 with fail
  (try simp only [tri])
  generalize hw5 : World.alloc w4 _ = w5 at bq ⊢
  clear hw5 d0 d1 d2 d3
  have hx5 := hx4.mono bq.below
  have hT5 := hT.mono bq.below
  have K : Hid (∀ W, Boxes w W [#[.int .u32 (p : Int), .slice fa fn fcap], #[.int .u32 (p : Int), .slice ga gn gcap], #[.int .u32 (p : Int), .slice ha hn hcap]] → Boxes w4 W [tri p a1 n1 c1 a2 n2 c2 a3 n3 c3] → W.cell? ⟨w.heap.size, 0, none⟩ = some (.int .u32 (p : Int)) ∧ W.cell? ⟨w.heap.size, 1, none⟩ = some (.slice fa fn fcap) ∧ W.cell? ⟨w.heap.size + 1, 0, none⟩ = some (.int .u32 (p : Int)) ∧ W.cell? ⟨w.heap.size + 1, 1, none⟩ = some (.slice ga gn gcap) ∧ W.cell? ⟨w.heap.size + 1 + 1, 0, none⟩ = some (.int .u32 (p : Int)) ∧ W.cell? ⟨w.heap.size + 1 + 1, 1, none⟩ = some (.slice ha hn hcap) ∧ W.cell? ⟨w4.heap.size, 0, none⟩ = some (.int .u32 (p : Int)) ∧ W.cell? ⟨w4.heap.size, 1, none⟩ = some (.slice a1 n1 c1) ∧ W.cell? ⟨w4.heap.size, 2, none⟩ = some (.int .u32 (p : Int)) ∧ W.cell? ⟨w4.heap.size, 3, none⟩ = some (.slice a2 n2 c2) ∧ W.cell? ⟨w4.heap.size, 4, none⟩ = some (.int .u32 (p : Int)) ∧ W.cell? ⟨w4.heap.size, 5, none⟩ = some (.slice a3 n3 c3) ∧ Boxes w W [#[.int .u32 (p : Int), .slice fa fn fcap], #[.int .u32 (p : Int), .slice ga gn gcap], #[.int .u32 (p : Int), .slice ha hn hcap]] ∧ Boxes w4 W [tri p a1 n1 c1 a2 n2 c2 a3 n3 c3]) :=
    fun W h h' => ⟨h.cell' 0 0 _ _ rfl rfl, h.cell' 0 1 _ _ rfl rfl, h.cell' 1 0 _ _ rfl rfl, h.cell' 1 1 _ _ rfl rfl, h.cell' 2 0 _ _ rfl rfl, h.cell' 2 1 _ _ rfl rfl, h'.cell' 0 0 _ _ rfl rfl, h'.cell' 0 1 _ _ rfl rfl, h'.cell' 0 2 _ _ rfl rfl, h'.cell' 0 3 _ _ rfl rfl, h'.cell' 0 4 _ _ rfl rfl, h'.cell' 0 5 _ _ rfl rfl, h, h'⟩
  obtain ⟨d0, d1, d2, d3, d4, d5, d6, d7, d8, d9, d10, d11, _⟩ := K.out w5 hx5 bq
  go_wp2_with fail
  refine (ref_HoldsGcd p fa fn fcap fl p ga gn gcap gl p a1 n1 c1 _ p a2 n2 c2 _ p a3 n3 c3 _ w5 (hf.mono hx5.below) (hg.mono hx5.below) hT5.g hT5.u hT5.v hp (by omega) (by omega) (by omega) (by omega) (by omega)).mono ?_
  rw [HR.out]
  rintro e w6 ⟨rfl, hb6⟩
  have hx6 := hx5.mono hb6
  have bq6 := bq.mono hb6
  have hT6 := hT5.mono hb6
  clear d0 d1 d2 d3 d4 d5 d6 d7 d8 d9 d10 d11
  obtain ⟨d0, d1, d2, d3, d4, d5, d6, d7, d8, d9, d10, d11, _⟩ := K.out w6 hx6 bq6
  go_wp2_with fail
  refine (ppoly_HoldsGcd p fa fn fcap fl p ga gn gcap gl p a1 n1 c1 _ p a2 n2 c2 _ p a3 n3 c3 _ w6 (HF.out.mono hx6.below) (hf.mono hx6.below) (hg.mono hx6.below) hT6.g hT6.u hT6.v hp (by omega) (by omega) (by omega) (by omega) (by omega)).mono ?_
  rw [HB.out]
  rintro e w7 ⟨rfl, hb7⟩
  have hx7 := (hx6.mono hb7)
  have bq7 := (bq6.mono hb7)
  have hT7 := (hT6.mono hb7)
  have hf7 := hf.mono hx7.below
  have hg7 := hg.mono hx7.below
  have hh7 := hh.mono hx7.below
  clear d0 d1 d2 d3 d4 d5 d6 d7 d8 d9 d10 d11
  obtain ⟨d0, d1, d2, d3, d4, d5, d6, d7, d8, d9, d10, d11, _⟩ := K.out w7 hx7 bq7
  (try clear hx6); (try clear hx5); (try clear hx4); (try clear hx3); (try clear bq6); (try clear bq)
  have fld : ∀ (W : World) (b1 b2 b3 : Option Addr) (m1 m2 m3 k1 k2 k3 : Nat), (Instr.field 35 (.agg #[.int .u32 (p : Int), .slice b1 m1 k1, .int .u32 (p : Int), .slice b2 m2 k2, .int .u32 (p : Int), .slice b3 m3 k3]) 0).run Tryd.prog W = .ok (.agg #[.int .u32 (p : Int), .slice b1 m1 k1]) W := fun _ _ _ _ _ _ _ _ _ _ => by first | kernel_rfl | rfl
  have m10 := M1.out
  have m20 := M2.out
  have sz7 : w.heap.size + 3 ≤ w7.heap.size := hx7.size
  have sq7 : w4.heap.size + 1 ≤ w7.heap.size := bq7.size
  have CY := (gcdL_ok hpr (mulL p fl hl) (mulL p gl hl) cF.out cG.out).1.cg
  go_upto_region 8 with fail
  go_cut [8] from 11 (fun u W => ∃ bu ua un uc, u = .pointer (some ⟨bu, 0, none⟩) ∧ w7.heap.size ≤ bu ∧ Below w7.heap.size w7 W ∧ Box W bu #[.int .u32 (p : Int), .slice ua un uc] ∧ Sl W ua un uc (gcdL p (mulL p fl hl) (mulL p gl hl)).G)
  case first =>
    go_region_held3 (fun W => W.cell? ⟨w.heap.size, 0, none⟩ = some (.int .u32 (p : Int)) ∧ W.cell? ⟨w.heap.size, 1, none⟩ = some (.slice fa fn fcap) ∧ W.cell? ⟨w.heap.size + 1, 0, none⟩ = some (.int .u32 (p : Int)) ∧ W.cell? ⟨w.heap.size + 1, 1, none⟩ = some (.slice ga gn gcap) ∧ W.cell? ⟨w.heap.size + 1 + 1, 0, none⟩ = some (.int .u32 (p : Int)) ∧ W.cell? ⟨w.heap.size + 1 + 1, 1, none⟩ = some (.slice ha hn hcap) ∧ W.cell? ⟨w4.heap.size, 0, none⟩ = some (.int .u32 (p : Int)) ∧ W.cell? ⟨w4.heap.size, 1, none⟩ = some (.slice a1 n1 c1) ∧ W.cell? ⟨w4.heap.size, 2, none⟩ = some (.int .u32 (p : Int)) ∧ W.cell? ⟨w4.heap.size, 3, none⟩ = some (.slice a2 n2 c2) ∧ W.cell? ⟨w4.heap.size, 4, none⟩ = some (.int .u32 (p : Int)) ∧ W.cell? ⟨w4.heap.size, 5, none⟩ = some (.slice a3 n3 c3) ∧ Boxes w W [#[.int .u32 (p : Int), .slice fa fn fcap], #[.int .u32 (p : Int), .slice ga gn gcap], #[.int .u32 (p : Int), .slice ha hn hcap]] ∧ Boxes w4 W [tri p a1 n1 c1 a2 n2 c2 a3 n3 c3])
      (first | (with_reducible refine K.out _ (by (repeat with_reducible (first | assumption | (refine Boxes.drew ?_) | (refine Boxes.alloc_any ?_ _) | (refine Boxes.setCell ?_ (by simp only [List.length_cons, List.length_nil]; omega) _))); first | done | fail) (by (repeat with_reducible (first | assumption | (refine Boxes.drew ?_) | (refine Boxes.alloc_any ?_ _) | (refine Boxes.setCell ?_ (by simp only [List.length_cons, List.length_nil]; omega) _))); first | done | fail); done) | fail)
      (first
        | (go_at_call 18; (with_reducible refine (ppoly_Mul p fa fn fcap fl ha hn hcap hl p _ (by (repeat with_reducible (first | assumption | (refine Sl.drew ?_) | (refine Sl.alloc ?_ _))); first | done | fail) (by (repeat with_reducible (first | assumption | (refine Sl.drew ?_) | (refine Sl.alloc ?_ _))); first | done | fail) hp0 hp (by omega) (by omega)).mono ?_); rintro e w8 ⟨u1, v1, cc1, rfl, hs8, hb8, hp8⟩; have hx8 : Boxes w w8 [#[.int .u32 (p : Int), .slice fa fn fcap], #[.int .u32 (p : Int), .slice ga gn gcap], #[.int .u32 (p : Int), .slice ha hn hcap]] := (by (repeat with_reducible (first | assumption | (refine Boxes.drew ?_) | (refine Boxes.alloc_any ?_ _) | (refine Boxes.setCell ?_ (by simp only [List.length_cons, List.length_nil]; omega) _) | (refine Boxes.mono ?_ hb8))); first | done | fail); have bq8 : Boxes w4 w8 [tri p a1 n1 c1 a2 n2 c2 a3 n3 c3] := (by (repeat with_reducible (first | assumption | (refine Boxes.drew ?_) | (refine Boxes.alloc_any ?_ _) | (refine Boxes.setCell ?_ (by simp only [List.length_cons, List.length_nil]; omega) _) | (refine Boxes.mono ?_ hb8))); first | done | fail); have ls8 := hs8.len; have hB8 : Below w7.heap.size w7 w8 := (by (repeat with_reducible (first | (exact Below.refl _ _) | (refine Alg.bdrew ?_) | (refine Alg.balloc ?_ _) | (refine Alg.btrans ?_ hb8))); first | done | fail); have hz8 := hB8.size)
        | (go_at_call 18; (with_reducible refine (ppoly_Mul p ga gn gcap gl ha hn hcap hl p _ (by (repeat with_reducible (first | assumption | (refine Sl.drew ?_) | (refine Sl.alloc ?_ _) | (refine Sl.mono ?_ hb8))); first | done | fail) (by (repeat with_reducible (first | assumption | (refine Sl.drew ?_) | (refine Sl.alloc ?_ _) | (refine Sl.mono ?_ hb8))); first | done | fail) hp0 hp (by omega) (by omega)).mono ?_); rintro e w9 ⟨u2, v2, cc2, rfl, hs9, hb9, hp9⟩; have hx9 : Boxes w w9 [#[.int .u32 (p : Int), .slice fa fn fcap], #[.int .u32 (p : Int), .slice ga gn gcap], #[.int .u32 (p : Int), .slice ha hn hcap]] := (by (repeat with_reducible (first | assumption | (refine Boxes.drew ?_) | (refine Boxes.alloc_any ?_ _) | (refine Boxes.setCell ?_ (by simp only [List.length_cons, List.length_nil]; omega) _) | (refine Boxes.mono ?_ hb9))); first | done | fail); have bq9 : Boxes w4 w9 [tri p a1 n1 c1 a2 n2 c2 a3 n3 c3] := (by (repeat with_reducible (first | assumption | (refine Boxes.drew ?_) | (refine Boxes.alloc_any ?_ _) | (refine Boxes.setCell ?_ (by simp only [List.length_cons, List.length_nil]; omega) _) | (refine Boxes.mono ?_ hb9))); first | done | fail); have ls9 := hs9.len; have hB9 : Below w7.heap.size w7 w9 := (by (repeat with_reducible (first | (exact Below.refl _ _) | (refine Alg.bdrew ?_) | (refine Alg.balloc ?_ _) | (refine Alg.btrans ?_ hb9) | (refine Alg.btrans ?_ hb8))); first | done | fail); have hz9 := hB9.size)
        | (go_at_call 20; (with_reducible refine (ppoly_Gcd p u1 v1 cc1 (mulL p fl hl) u2 v2 cc2 (mulL p gl hl) _ (by (repeat with_reducible (first | assumption | (refine Sl.drew ?_) | (refine Sl.alloc ?_ _) | (refine Sl.mono ?_ hb9))); first | done | fail) (by (repeat with_reducible (first | assumption | (refine Sl.drew ?_) | (refine Sl.alloc ?_ _))); first | done | fail) hpr hp (by omega) (by omega) cF.out cG.out).mono ?_); rintro e w10 ⟨b1, m1, k1, b2, m2, k2, b3, m3, k3, rfl, hY, hb10⟩; have hx10 : Boxes w w10 [#[.int .u32 (p : Int), .slice fa fn fcap], #[.int .u32 (p : Int), .slice ga gn gcap], #[.int .u32 (p : Int), .slice ha hn hcap]] := (by (repeat with_reducible (first | assumption | (refine Boxes.drew ?_) | (refine Boxes.alloc_any ?_ _) | (refine Boxes.setCell ?_ (by simp only [List.length_cons, List.length_nil]; omega) _) | (refine Boxes.mono ?_ hb10))); first | done | fail); have bq10 : Boxes w4 w10 [tri p a1 n1 c1 a2 n2 c2 a3 n3 c3] := (by (repeat with_reducible (first | assumption | (refine Boxes.drew ?_) | (refine Boxes.alloc_any ?_ _) | (refine Boxes.setCell ?_ (by simp only [List.length_cons, List.length_nil]; omega) _) | (refine Boxes.mono ?_ hb10))); first | done | fail); have hB10 : Below w7.heap.size w7 w10 := (by (repeat with_reducible (first | (exact Below.refl _ _) | (refine Alg.bdrew ?_) | (refine Alg.balloc ?_ _) | (refine Alg.btrans ?_ hb10) | (refine Alg.btrans ?_ hb9) | (refine Alg.btrans ?_ hb8))); first | done | fail); have hz10 := hB10.size; (try simp only [tri]); have hX2 : Box w10 (w7.heap.size) #[.int .u32 0, .slice none 0 0] := (by (repeat with_reducible (first | (exact Box.new' _ _ _ (by first | rfl | exact (World.size_alloc _ _).symm)) | (refine Box.drew ?_) | (refine Box.alloc ?_ _) | (refine Box.mono ?_ hb10) | (refine Box.mono ?_ hb9) | (refine Box.mono ?_ hb8))); first | done | fail); have hX3 : BoxX w10 (w7.heap.size) #[.int .u32 0, .slice none 0 0] := (by (repeat with_reducible (first | (exact BoxX.new' _ _ _ (by first | rfl | exact (World.size_alloc _ _).symm)) | (refine BoxX.drew ?_) | (refine BoxX.alloc ?_ _) | (refine BoxX.mono ?_ hb10) | (refine BoxX.mono ?_ hb9) | (refine BoxX.mono ?_ hb8))); first | done | fail); obtain ⟨q0, q1, z0, z1⟩ := hX2.two)
        | (go_at_call 20; (with_reducible refine (ppoly_Gcd p u1 v1 cc1 (mulL p fl hl) u2 v2 cc2 (mulL p gl hl) _ (by (repeat with_reducible (first | assumption | (refine Sl.drew ?_) | (refine Sl.alloc ?_ _) | (refine Sl.mono ?_ hb9))); first | done | fail) (by (repeat with_reducible (first | assumption | (refine Sl.drew ?_) | (refine Sl.alloc ?_ _))); first | done | fail) hpr hp (by omega) (by omega) cF.out cG.out).mono ?_); rintro e w10 ⟨b1, m1, k1, b2, m2, k2, b3, m3, k3, rfl, hY, hb10⟩; have hx10 : Boxes w w10 [#[.int .u32 (p : Int), .slice fa fn fcap], #[.int .u32 (p : Int), .slice ga gn gcap], #[.int .u32 (p : Int), .slice ha hn hcap]] := (by (repeat with_reducible (first | assumption | (refine Boxes.drew ?_) | (refine Boxes.alloc_any ?_ _) | (refine Boxes.setCell ?_ (by simp only [List.length_cons, List.length_nil]; omega) _) | (refine Boxes.mono ?_ hb10))); first | done | fail); have bq10 : Boxes w4 w10 [tri p a1 n1 c1 a2 n2 c2 a3 n3 c3] := (by (repeat with_reducible (first | assumption | (refine Boxes.drew ?_) | (refine Boxes.alloc_any ?_ _) | (refine Boxes.setCell ?_ (by simp only [List.length_cons, List.length_nil]; omega) _) | (refine Boxes.mono ?_ hb10))); first | done | fail); have hB10 : Below w7.heap.size w7 w10 := (by (repeat with_reducible (first | (exact Below.refl _ _) | (refine Alg.bdrew ?_) | (refine Alg.balloc ?_ _) | (refine Alg.btrans ?_ hb10) | (refine Alg.btrans ?_ hb9) | (refine Alg.btrans ?_ hb8))); first | done | fail); have hz10 := hB10.size; (try simp only [tri]); have hX2 : Box w10 (w8.heap.size) #[.int .u32 0, .slice none 0 0] := (by (repeat with_reducible (first | (exact Box.new' _ _ _ (by first | rfl | exact (World.size_alloc _ _).symm)) | (refine Box.drew ?_) | (refine Box.alloc ?_ _) | (refine Box.mono ?_ hb10) | (refine Box.mono ?_ hb9) | (refine Box.mono ?_ hb8))); first | done | fail); have hX3 : BoxX w10 (w8.heap.size) #[.int .u32 0, .slice none 0 0] := (by (repeat with_reducible (first | (exact BoxX.new' _ _ _ (by first | rfl | exact (World.size_alloc _ _).symm)) | (refine BoxX.drew ?_) | (refine BoxX.alloc ?_ _) | (refine BoxX.mono ?_ hb10) | (refine BoxX.mono ?_ hb9) | (refine BoxX.mono ?_ hb8))); first | done | fail); obtain ⟨q0, q1, z0, z1⟩ := hX2.two)
        | (go_at_call 20; (with_reducible refine (ppoly_Gcd p u1 v1 cc1 (mulL p fl hl) u2 v2 cc2 (mulL p gl hl) _ (by (repeat with_reducible (first | assumption | (refine Sl.drew ?_) | (refine Sl.alloc ?_ _) | (refine Sl.mono ?_ hb9))); first | done | fail) (by (repeat with_reducible (first | assumption | (refine Sl.drew ?_) | (refine Sl.alloc ?_ _))); first | done | fail) hpr hp (by omega) (by omega) cF.out cG.out).mono ?_); rintro e w10 ⟨b1, m1, k1, b2, m2, k2, b3, m3, k3, rfl, hY, hb10⟩; have hx10 : Boxes w w10 [#[.int .u32 (p : Int), .slice fa fn fcap], #[.int .u32 (p : Int), .slice ga gn gcap], #[.int .u32 (p : Int), .slice ha hn hcap]] := (by (repeat with_reducible (first | assumption | (refine Boxes.drew ?_) | (refine Boxes.alloc_any ?_ _) | (refine Boxes.setCell ?_ (by simp only [List.length_cons, List.length_nil]; omega) _) | (refine Boxes.mono ?_ hb10))); first | done | fail); have bq10 : Boxes w4 w10 [tri p a1 n1 c1 a2 n2 c2 a3 n3 c3] := (by (repeat with_reducible (first | assumption | (refine Boxes.drew ?_) | (refine Boxes.alloc_any ?_ _) | (refine Boxes.setCell ?_ (by simp only [List.length_cons, List.length_nil]; omega) _) | (refine Boxes.mono ?_ hb10))); first | done | fail); have hB10 : Below w7.heap.size w7 w10 := (by (repeat with_reducible (first | (exact Below.refl _ _) | (refine Alg.bdrew ?_) | (refine Alg.balloc ?_ _) | (refine Alg.btrans ?_ hb10) | (refine Alg.btrans ?_ hb9) | (refine Alg.btrans ?_ hb8))); first | done | fail); have hz10 := hB10.size; (try simp only [tri]); have hX2 : Box w10 (w9.heap.size) #[.int .u32 0, .slice none 0 0] := (by (repeat with_reducible (first | (exact Box.new' _ _ _ (by first | rfl | exact (World.size_alloc _ _).symm)) | (refine Box.drew ?_) | (refine Box.alloc ?_ _) | (refine Box.mono ?_ hb10) | (refine Box.mono ?_ hb9) | (refine Box.mono ?_ hb8))); first | done | fail); have hX3 : BoxX w10 (w9.heap.size) #[.int .u32 0, .slice none 0 0] := (by (repeat with_reducible (first | (exact BoxX.new' _ _ _ (by first | rfl | exact (World.size_alloc _ _).symm)) | (refine BoxX.drew ?_) | (refine BoxX.alloc ?_ _) | (refine BoxX.mono ?_ hb10) | (refine BoxX.mono ?_ hb9) | (refine BoxX.mono ?_ hb8))); first | done | fail); obtain ⟨q0, q1, z0, z1⟩ := hX2.two)
        | (go_at_call 20; (with_reducible refine (ppoly_Gcd p u1 v1 cc1 (mulL p fl hl) u2 v2 cc2 (mulL p gl hl) _ (by (repeat with_reducible (first | assumption | (refine Sl.drew ?_) | (refine Sl.alloc ?_ _) | (refine Sl.mono ?_ hb9))); first | done | fail) (by (repeat with_reducible (first | assumption | (refine Sl.drew ?_) | (refine Sl.alloc ?_ _))); first | done | fail) hpr hp (by omega) (by omega) cF.out cG.out).mono ?_); rintro e w10 ⟨b1, m1, k1, b2, m2, k2, b3, m3, k3, rfl, hY, hb10⟩; have hx10 : Boxes w w10 [#[.int .u32 (p : Int), .slice fa fn fcap], #[.int .u32 (p : Int), .slice ga gn gcap], #[.int .u32 (p : Int), .slice ha hn hcap]] := (by (repeat with_reducible (first | assumption | (refine Boxes.drew ?_) | (refine Boxes.alloc_any ?_ _) | (refine Boxes.setCell ?_ (by simp only [List.length_cons, List.length_nil]; omega) _) | (refine Boxes.mono ?_ hb10))); first | done | fail); have bq10 : Boxes w4 w10 [tri p a1 n1 c1 a2 n2 c2 a3 n3 c3] := (by (repeat with_reducible (first | assumption | (refine Boxes.drew ?_) | (refine Boxes.alloc_any ?_ _) | (refine Boxes.setCell ?_ (by simp only [List.length_cons, List.length_nil]; omega) _) | (refine Boxes.mono ?_ hb10))); first | done | fail); have hB10 : Below w7.heap.size w7 w10 := (by (repeat with_reducible (first | (exact Below.refl _ _) | (refine Alg.bdrew ?_) | (refine Alg.balloc ?_ _) | (refine Alg.btrans ?_ hb10) | (refine Alg.btrans ?_ hb9) | (refine Alg.btrans ?_ hb8))); first | done | fail); have hz10 := hB10.size; (try simp only [tri]); have hNo : True := trivial)
        | fail)
    all_goals go_wp2
    all_goals go_meet
    all_goals
      have hY1 := hY.g
      try
        (have _h := hNo
         exact ⟨_, _, _, _, rfl, by omega, balloc hB10 _, Box.new' _ _ _ rfl, hY1.alloc _⟩)
    all_goals
      refine ⟨_, _, _, _, rfl, by omega, bset (bset hB10 ?_ _) ?_ _, hX2.put2 _ _, (hY1.setCell ?_ _).setCell ?_ _⟩
      all_goals first
        | omega
        | exact hX3.off hY1 CY _ rfl rfl
  case rest =>
    obtain ⟨bu, ua, un, uc, rfl, hbu, bel, bU, sU⟩ := hcut
    have hx8 := hx7.mono bel
    have bq8 := bq7.mono bel
    have hT8 := hT7.mono bel
    have lU := sU.len
    have fy := gcdL_len p (mulL p fl hl) (mulL p gl hl)
    clear d0 d1 d2 d3 d4 d5 d6 d7 d8 d9 d10 d11
    obtain ⟨d0, d1, d2, d3, d4, d5, d6, d7, d8, d9, d10, d11, _⟩ := K.out wc hx8 bq8
    have m30 := M3.out
    go_wp2_with fail
    refine (ref_Mul p a1 n1 c1 _ ha hn hcap hl p wc hT8.g (hh.mono hx8.below) hp0 hp (by omega) (by omega) HD.out hhl.out).mono ?_
    rintro e w8 ⟨u1, v1, cc1, rfl, hs8, hb8, _⟩
    have ls8 := hs8.len
    go_wp2_with fail
    refine (ref_Monic p u1 v1 cc1 _ w8 hs8 hp1 hp (by omega)).mono ?_
    rintro e w9 ⟨u2, v2, cc2, rfl, hs9, hb9⟩
    have bZ := boxes1 w9 #[.int .u32 (p : Int), .slice u2 v2 cc2] 25
    go_upto_region 10 with fail
    generalize hw10 : World.alloc w9 _ = w10 at bZ ⊢
    clear hw10
    have bU10 := ((bU.mono hb8).mono hb9).mono bZ.below
    obtain ⟨x0, x1, _, _⟩ := bU10.two
    obtain ⟨y0, y1⟩ := bZ.at0 rfl
    go_wp2_with fail
    refine (ref_Same p ua un uc _ p u2 v2 cc2 _ w10 (((sU.mono hb8).mono hb9).mono bZ.below) (hs9.mono bZ.below) (by omega)).mono ?_
    rw [FK.out, ES.out]
    rintro e w11 ⟨rfl, hb11⟩
    go_wp2
    go_ret
    exact ⟨rfl, ((((hx8.mono hb8).mono hb9).mono bZ.below).mono hb11).below⟩
end Go.Proofs.YtcefhnmhcapccaaDoor
