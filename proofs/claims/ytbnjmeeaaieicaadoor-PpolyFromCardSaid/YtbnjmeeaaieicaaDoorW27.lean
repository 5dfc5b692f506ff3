/- Contract of ppoly.Gcd. -/
import Derived.Test.YtbnjmeeaaieicaaDoorA9
import Derived.Test.YtbnjmeeaaieicaaDoorW15
import Derived.Test.YtbnjmeeaaieicaaDoorHH
import Derived.Deep.Cut
import Derived.Deep.CutRange
open Alg Go Go.RowKit
namespace Alg
theorem sl_one (W : World) (c : Nat) (hc : c < 4294967296) (T : TypeId) : Sl (W.alloc (.cells #[.int .u32 (c : Int)] T)) (some ⟨W.heap.size, 0, none⟩) 1 1 [c] where
  len := rfl
  le := Nat.le_refl _
  cap := by omega
  lt := fun i => by
    match i with
    | 0 => exact hc
    | i + 1 => show ([] : List Nat).getD i 0 < _; simp
  rd := Or.inr ⟨_, _, rfl, fun i hi => by
    have h0 : i = 0 := by omega
    subst h0
    rw [cell_box]; rfl⟩
theorem sl_one1 (W : World) (T : TypeId) : Sl (W.alloc (.cells #[.int .u32 1] T)) (some ⟨W.heap.size, 0, none⟩) 1 1 [1] := sl_one W 1 (by omega) T
theorem sl_one1' (W : World) (T : TypeId) {b : Nat} (h : b = W.heap.size) : Sl (W.alloc (.cells #[.int .u32 1] T)) (some ⟨b, 0, none⟩) 1 1 [1] := by subst h; exact sl_one1 W T
theorem Sl.alloc {w : World} {a : Option Addr} {n cap : Nat} {l : List Nat} (h : Sl w a n cap l) (o : Obj) : Sl (w.alloc o) a n cap l := h.mono ((Below.refl _ w).alloc (Nat.le_refl _) o)
end Alg
namespace Go.Proofs.YtbnjmeeaaieicaaDoor
open Go.RowKit
set_option maxRecDepth 100000 in
set_option maxHeartbeats 2000000 in
theorem ppoly_GcdP (p : Nat) (fa : Option Addr) (fn fcap : Nat) (fl : List Nat) (ga : Option Addr) (gn gcap : Nat) (gl : List Nat) (w : World) (hf : Sl w fa fn fcap fl) (hg : Sl w ga gn gcap gl)
    (hpr : IsPr p) (hp : p < 4294967296) (hfn : fn ≤ 274877906944) (hgn : gn ≤ 274877906944) (cf : Canon p fl) (cg : Canon p gl) :
    Calls Tryd.prog 80 #[.agg #[.int .u32 p, .slice fa fn fcap], .agg #[.int .u32 p, .slice ga gn gcap]] w (RetTP p (gcdL p fl gl) w) := by
  have hbx := boxes3 w #[.int .u32 (p : Int), .slice fa fn fcap] #[.int .u32 (p : Int), .slice ga gn gcap] (tri 0 none 0 0 none 0 0 none 0 0) 47 47 83
  have K : Hid (∀ W, Boxes w W [#[.int .u32 (p : Int), .slice fa fn fcap], #[.int .u32 (p : Int), .slice ga gn gcap], (tri 0 none 0 0 none 0 0 none 0 0)] → W.cell? ⟨w.heap.size, 0, none⟩ = some (.int .u32 (p : Int)) ∧ W.cell? ⟨w.heap.size, 1, none⟩ = some (.slice fa fn fcap) ∧ W.cell? ⟨w.heap.size + 1, 0, none⟩ = some (.int .u32 (p : Int)) ∧ W.cell? ⟨w.heap.size + 1, 1, none⟩ = some (.slice ga gn gcap) ∧ Boxes w W [#[.int .u32 (p : Int), .slice fa fn fcap], #[.int .u32 (p : Int), .slice ga gn gcap], (tri 0 none 0 0 none 0 0 none 0 0)]) :=
    fun W h => ⟨h.cell' 0 0 _ _ rfl rfl, h.cell' 0 1 _ _ rfl rfl, h.cell' 1 0 _ _ rfl rfl, h.cell' 1 1 _ _ rfl rfl, h⟩
  go_enter Tryd.func80, Tryd.ntmps80
  go_wp2
  generalize hW0 : (((w.alloc (.cells #[.int .u32 (p : Int), .slice fa fn fcap] 47)).alloc (.cells #[.int .u32 (p : Int), .slice ga gn gcap] 47)).alloc (.cells #[.int .u32 0, .slice none 0 0, .int .u32 0, .slice none 0 0, .int .u32 0, .slice none 0 0] 83)) = W0 at hbx ⊢
  clear hW0
  have hsz := hbx.size
  simp only [List.length_cons, List.length_nil] at hsz
  have hf0 := hf.mono hbx.below
  have hg0 := hg.mono hbx.below
  have hbw := hbx.below
  go_cut [6] from 13 (fun x W => ∃ bx, x = .pointer (some ⟨bx, 0, none⟩) ∧ w.heap.size + 3 ≤ bx ∧ bx < W.heap.size ∧ Below W0.heap.size W0 W ∧ Tri W bx p [bx, w.heap.size + 2] ⟨fl, [1], []⟩)
  case first =>
    go_region_held3 (fun W => W.cell? ⟨w.heap.size, 0, none⟩ = some (.int .u32 (p : Int)) ∧ W.cell? ⟨w.heap.size, 1, none⟩ = some (.slice fa fn fcap) ∧ W.cell? ⟨w.heap.size + 1, 0, none⟩ = some (.int .u32 (p : Int)) ∧ W.cell? ⟨w.heap.size + 1, 1, none⟩ = some (.slice ga gn gcap) ∧ Boxes w W [#[.int .u32 (p : Int), .slice fa fn fcap], #[.int .u32 (p : Int), .slice ga gn gcap], (tri 0 none 0 0 none 0 0 none 0 0)])
      (first | (with_reducible refine K.out _ ?_; (repeat with_reducible (first | assumption | (refine Boxes.drew ?_) | (refine Boxes.alloc_any ?_ _) | (refine Boxes.setCell ?_ (by simp; try omega) _))); done) | fail)
      (first
        | (go_at_call 85; (with_reducible refine (ppoly_of p _ 1 1 [1] _ (by (repeat with_reducible (first | (exact sl_one1' _ _ (by first | rfl | exact (World.size_alloc _ _).symm)) | (refine Sl.drew ?_) | (refine Sl.alloc ?_ _))); first | done | fail)).mono ?_); rintro e w1 ⟨a1, n1, c1, rfl, hs1, hb1, hp1⟩; have hs1 : Sl w1 a1 n1 c1 [1] := hs1; have hB1 : Below W0.heap.size W0 w1 := (by (repeat with_reducible (first | (exact Below.refl _ _) | (refine Alg.bdrew ?_) | (refine Alg.balloc ?_ _) | (refine Alg.btrans ?_ hb1))); first | done | fail); have hx1 := hbx.mono hB1; have hz1 : w.heap.size + 3 ≤ w1.heap.size := hx1.size)
        | (go_at_call 85; (with_reducible refine (ppoly_of p none 0 0 [] _ (Sl.of_nil _ _ _ (by omega))).mono ?_); rintro e w2 ⟨a2, n2, c2, rfl, hs2, hb2, hp2⟩; have hs2 : Sl w2 a2 n2 c2 [] := hs2; have hB2 : Below W0.heap.size W0 w2 := (by (repeat with_reducible (first | (exact Below.refl _ _) | (refine Alg.bdrew ?_) | (refine Alg.balloc ?_ _) | (refine Alg.btrans ?_ hb2) | (refine Alg.btrans ?_ hb1))); first | done | fail); have hx2 := hbx.mono hB2; have hs1' : Sl w2 a1 n1 c1 [1] := (by (repeat with_reducible (first | assumption | (refine Sl.mono ?_ hb2) | (refine Sl.alloc ?_ _))); first | done | fail); have hz3 : w1.heap.size ≤ w2.heap.size := (by have := hb2.size; (try rw [World.size_alloc] at this); omega); have hX2 : Box w2 (W0.heap.size) #[.int .u32 0, .slice none 0 0, .int .u32 0, .slice none 0 0, .int .u32 0, .slice none 0 0] := (by (repeat with_reducible (first | (exact Box.new' _ _ _ (by first | rfl | exact (World.size_alloc _ _).symm)) | (refine Box.drew ?_) | (refine Box.alloc ?_ _) | (refine Box.mono ?_ hb2) | (refine Box.mono ?_ hb1))); first | done | fail); obtain ⟨⟨q0, q1, q2, q3, q4, q5⟩, z0, z1, z2, z3, z4, z5⟩ := hX2.six)
        | (go_at_call 85; (with_reducible refine (ppoly_of p none 0 0 [] _ (Sl.of_nil _ _ _ (by omega))).mono ?_); rintro e w2 ⟨a2, n2, c2, rfl, hs2, hb2, hp2⟩; have hs2 : Sl w2 a2 n2 c2 [] := hs2; have hB2 : Below W0.heap.size W0 w2 := (by (repeat with_reducible (first | (exact Below.refl _ _) | (refine Alg.bdrew ?_) | (refine Alg.balloc ?_ _) | (refine Alg.btrans ?_ hb2) | (refine Alg.btrans ?_ hb1))); first | done | fail); have hx2 := hbx.mono hB2; have hs1' : Sl w2 a1 n1 c1 [1] := (by (repeat with_reducible (first | assumption | (refine Sl.mono ?_ hb2) | (refine Sl.alloc ?_ _))); first | done | fail); have hz3 : w1.heap.size ≤ w2.heap.size := (by have := hb2.size; (try rw [World.size_alloc] at this); omega); have hX2 : Box w2 (W0.heap.size + 1) #[.int .u32 0, .slice none 0 0, .int .u32 0, .slice none 0 0, .int .u32 0, .slice none 0 0] := (by (repeat with_reducible (first | (exact Box.new' _ _ _ (by first | rfl | exact (World.size_alloc _ _).symm)) | (refine Box.drew ?_) | (refine Box.alloc ?_ _) | (refine Box.mono ?_ hb2) | (refine Box.mono ?_ hb1))); first | done | fail); obtain ⟨⟨q0, q1, q2, q3, q4, q5⟩, z0, z1, z2, z3, z4, z5⟩ := hX2.six)
        | (go_at_call 85; (with_reducible refine (ppoly_of p none 0 0 [] _ (Sl.of_nil _ _ _ (by omega))).mono ?_); rintro e w2 ⟨a2, n2, c2, rfl, hs2, hb2, hp2⟩; have hs2 : Sl w2 a2 n2 c2 [] := hs2; have hB2 : Below W0.heap.size W0 w2 := (by (repeat with_reducible (first | (exact Below.refl _ _) | (refine Alg.bdrew ?_) | (refine Alg.balloc ?_ _) | (refine Alg.btrans ?_ hb2) | (refine Alg.btrans ?_ hb1))); first | done | fail); have hx2 := hbx.mono hB2; have hs1' : Sl w2 a1 n1 c1 [1] := (by (repeat with_reducible (first | assumption | (refine Sl.mono ?_ hb2) | (refine Sl.alloc ?_ _))); first | done | fail); have hz3 : w1.heap.size ≤ w2.heap.size := (by have := hb2.size; (try rw [World.size_alloc] at this); omega); have hX2 : Box w2 (w1.heap.size) #[.int .u32 0, .slice none 0 0, .int .u32 0, .slice none 0 0, .int .u32 0, .slice none 0 0] := (by (repeat with_reducible (first | (exact Box.new' _ _ _ (by first | rfl | exact (World.size_alloc _ _).symm)) | (refine Box.drew ?_) | (refine Box.alloc ?_ _) | (refine Box.mono ?_ hb2) | (refine Box.mono ?_ hb1))); first | done | fail); obtain ⟨⟨q0, q1, q2, q3, q4, q5⟩, z0, z1, z2, z3, z4, z5⟩ := hX2.six)
        | (go_at_call 85; (with_reducible refine (ppoly_of p none 0 0 [] _ (Sl.of_nil _ _ _ (by omega))).mono ?_); rintro e w2 ⟨a2, n2, c2, rfl, hs2, hb2, hp2⟩; have hs2 : Sl w2 a2 n2 c2 [] := hs2; have hB2 : Below W0.heap.size W0 w2 := (by (repeat with_reducible (first | (exact Below.refl _ _) | (refine Alg.bdrew ?_) | (refine Alg.balloc ?_ _) | (refine Alg.btrans ?_ hb2) | (refine Alg.btrans ?_ hb1))); first | done | fail); have hx2 := hbx.mono hB2; have hs1' : Sl w2 a1 n1 c1 [1] := (by (repeat with_reducible (first | assumption | (refine Sl.mono ?_ hb2) | (refine Sl.alloc ?_ _))); first | done | fail); have hz3 : w1.heap.size ≤ w2.heap.size := (by have := hb2.size; (try rw [World.size_alloc] at this); omega); have hX2 : Box w2 (w1.heap.size + 1) #[.int .u32 0, .slice none 0 0, .int .u32 0, .slice none 0 0, .int .u32 0, .slice none 0 0] := (by (repeat with_reducible (first | (exact Box.new' _ _ _ (by first | rfl | exact (World.size_alloc _ _).symm)) | (refine Box.drew ?_) | (refine Box.alloc ?_ _) | (refine Box.mono ?_ hb2) | (refine Box.mono ?_ hb1))); first | done | fail); obtain ⟨⟨q0, q1, q2, q3, q4, q5⟩, z0, z1, z2, z3, z4, z5⟩ := hX2.six)
        | (go_at_call 85; (with_reducible refine (ppoly_of p none 0 0 [] _ (Sl.of_nil _ _ _ (by omega))).mono ?_); rintro e w2 ⟨a2, n2, c2, rfl, hs2, hb2, hp2⟩; have hs2 : Sl w2 a2 n2 c2 [] := hs2; have hB2 : Below W0.heap.size W0 w2 := (by (repeat with_reducible (first | (exact Below.refl _ _) | (refine Alg.bdrew ?_) | (refine Alg.balloc ?_ _) | (refine Alg.btrans ?_ hb2) | (refine Alg.btrans ?_ hb1))); first | done | fail); have hx2 := hbx.mono hB2; have hs1' : Sl w2 a1 n1 c1 [1] := (by (repeat with_reducible (first | assumption | (refine Sl.mono ?_ hb2) | (refine Sl.alloc ?_ _))); first | done | fail); have hz3 : w1.heap.size ≤ w2.heap.size := (by have := hb2.size; (try rw [World.size_alloc] at this); omega))
        | fail)
    all_goals go_wp2
    all_goals go_meet
    all_goals
      have hn2 : n2 = 0 := by have := hs2.len; simpa [trim] using this.symm
      subst hn2
      have hz0 := hB1.size
      have hz2 := hB2.size
    case rel =>
      refine ⟨_, rfl, by omega, by rw [World.size_alloc]; omega, hB2.alloc hB2.size _, Tri.of_new _ rfl ⟨hf0.mono hB2, hs1', hs2⟩ (Offs.old hf ?_) ?_ (fun r _ => Or.inl rfl)⟩
      · intro r hr
        simp only [List.mem_cons, List.not_mem_nil, or_false] at hr
        omega
      · intro r hr
        simp only [List.mem_cons, List.not_mem_nil, or_false] at hr
        rcases hr with rfl | rfl
        · first
            | exact hs1.off (by omega)
            | exact hp1.offb (by simp only [World.size_drew, World.size_alloc]; omega) (by omega)
        · exact hp1.offb (by simp only [World.size_drew, World.size_alloc]; omega) (by omega)
    all_goals
      refine ⟨_, rfl, by omega, ?_, Alg.Below.set6 hB2 (by omega) _ _ _ _ _ _, Tri.of_set hX2 ⟨hf0.mono hB2, hs1', hs2⟩ (by simp) (Offs.old hf ?_) ?_ (fun r _ => Or.inl rfl)⟩
      · rw [size_set6]; exact hX2.lt
      · intro r hr
        simp only [List.mem_cons, List.not_mem_nil, or_false] at hr
        omega
      · intro r hr
        simp only [List.mem_cons, List.not_mem_nil, or_false] at hr
        rcases hr with rfl | rfl
        · first
            | exact hs1.off (by omega)
            | exact hp1.offb (by simp only [World.size_drew, World.size_alloc]; omega) (by omega)
        · exact hp1.offb (by simp only [World.size_drew, World.size_alloc]; omega) (by omega)
  case rest =>
    obtain ⟨bx, rfl, hbxg, hbxl, hBc, hTx⟩ := hcut
    have hbc := hbx.mono hBc
    have hbs := hBc.size
    have hg1 := hg.mono hbc.below
    clear hf0 hg0 hbx hbw
    go_wp2
    go_cut [6, 7] from 13 (fun x y W => x = .pointer (some ⟨bx, 0, none⟩) ∧ ∃ bz, y = .pointer (some ⟨bz, 0, none⟩) ∧ bx < bz ∧ wc.heap.size ≤ bz ∧ bz < W.heap.size ∧ Below wc.heap.size wc W ∧ Tri W bz p [bz, bx, w.heap.size + 2] ⟨gl, [], [1]⟩)
    case first =>
      go_region_held3 (fun W => W.cell? ⟨w.heap.size, 0, none⟩ = some (.int .u32 (p : Int)) ∧ W.cell? ⟨w.heap.size, 1, none⟩ = some (.slice fa fn fcap) ∧ W.cell? ⟨w.heap.size + 1, 0, none⟩ = some (.int .u32 (p : Int)) ∧ W.cell? ⟨w.heap.size + 1, 1, none⟩ = some (.slice ga gn gcap) ∧ Boxes w W [#[.int .u32 (p : Int), .slice fa fn fcap], #[.int .u32 (p : Int), .slice ga gn gcap], (tri 0 none 0 0 none 0 0 none 0 0)])
        (first | (with_reducible refine K.out _ ?_; (repeat with_reducible (first | assumption | (refine Boxes.drew ?_) | (refine Boxes.alloc_any ?_ _) | (refine Boxes.setCell ?_ (by simp; try omega) _))); done) | fail)
        (first
          | (go_at_call 85; (with_reducible refine (ppoly_of p none 0 0 [] _ (Sl.of_nil _ _ _ (by omega))).mono ?_); rintro e w1 ⟨a1, n1, c1, rfl, hs1, hb1, hp1⟩; have hs1 : Sl w1 a1 n1 c1 [] := hs1; have hB1 : Below wc.heap.size wc w1 := (by (repeat with_reducible (first | (exact Below.refl _ _) | (refine Alg.bdrew ?_) | (refine Alg.balloc ?_ _) | (refine Alg.btrans ?_ hb1))); first | done | fail); have hx1 := hbc.mono hB1; have hz1 : w.heap.size + 3 ≤ w1.heap.size := hx1.size; have hz4 := hb1.size; (try rw [World.size_drew] at hz4); (repeat rw [World.size_alloc] at hz4))
          | (go_at_call 85; (with_reducible refine (ppoly_of p _ 1 1 [1] _ (by (repeat with_reducible (first | (exact sl_one1' _ _ (by first | rfl | exact (World.size_alloc _ _).symm)) | (refine Sl.drew ?_) | (refine Sl.alloc ?_ _) | (refine Sl.mono ?_ hb1))); first | done | fail)).mono ?_); rintro e w2 ⟨a2, n2, c2, rfl, hs2, hb2, hp2⟩; have hs2 : Sl w2 a2 n2 c2 [1] := hs2; have hB2 : Below wc.heap.size wc w2 := (by (repeat with_reducible (first | (exact Below.refl _ _) | (refine Alg.bdrew ?_) | (refine Alg.balloc ?_ _) | (refine Alg.btrans ?_ hb2) | (refine Alg.btrans ?_ hb1))); first | done | fail); have hx2 := hbc.mono hB2; have hs1' : Sl w2 a1 n1 c1 [] := (by (repeat with_reducible (first | assumption | (refine Sl.mono ?_ hb2) | (refine Sl.alloc ?_ _))); first | done | fail); have hz3 : w1.heap.size ≤ w2.heap.size := (by have := hb2.size; (repeat rw [World.size_alloc] at this); omega); have hX2 : Box w2 (wc.heap.size) #[.int .u32 0, .slice none 0 0, .int .u32 0, .slice none 0 0, .int .u32 0, .slice none 0 0] := (by (repeat with_reducible (first | (exact Box.new' _ _ _ (by first | rfl | exact (World.size_alloc _ _).symm)) | (refine Box.drew ?_) | (refine Box.alloc ?_ _) | (refine Box.mono ?_ hb2) | (refine Box.mono ?_ hb1))); first | done | fail); obtain ⟨⟨q0, q1, q2, q3, q4, q5⟩, z0, z1, z2, z3, z4, z5⟩ := hX2.six)
          | (go_at_call 85; (with_reducible refine (ppoly_of p _ 1 1 [1] _ (by (repeat with_reducible (first | (exact sl_one1' _ _ (by first | rfl | exact (World.size_alloc _ _).symm)) | (refine Sl.drew ?_) | (refine Sl.alloc ?_ _) | (refine Sl.mono ?_ hb1))); first | done | fail)).mono ?_); rintro e w2 ⟨a2, n2, c2, rfl, hs2, hb2, hp2⟩; have hs2 : Sl w2 a2 n2 c2 [1] := hs2; have hB2 : Below wc.heap.size wc w2 := (by (repeat with_reducible (first | (exact Below.refl _ _) | (refine Alg.bdrew ?_) | (refine Alg.balloc ?_ _) | (refine Alg.btrans ?_ hb2) | (refine Alg.btrans ?_ hb1))); first | done | fail); have hx2 := hbc.mono hB2; have hs1' : Sl w2 a1 n1 c1 [] := (by (repeat with_reducible (first | assumption | (refine Sl.mono ?_ hb2) | (refine Sl.alloc ?_ _))); first | done | fail); have hz3 : w1.heap.size ≤ w2.heap.size := (by have := hb2.size; (repeat rw [World.size_alloc] at this); omega); have hX2 : Box w2 (wc.heap.size + 1) #[.int .u32 0, .slice none 0 0, .int .u32 0, .slice none 0 0, .int .u32 0, .slice none 0 0] := (by (repeat with_reducible (first | (exact Box.new' _ _ _ (by first | rfl | exact (World.size_alloc _ _).symm)) | (refine Box.drew ?_) | (refine Box.alloc ?_ _) | (refine Box.mono ?_ hb2) | (refine Box.mono ?_ hb1))); first | done | fail); obtain ⟨⟨q0, q1, q2, q3, q4, q5⟩, z0, z1, z2, z3, z4, z5⟩ := hX2.six)
          | (go_at_call 85; (with_reducible refine (ppoly_of p _ 1 1 [1] _ (by (repeat with_reducible (first | (exact sl_one1' _ _ (by first | rfl | exact (World.size_alloc _ _).symm)) | (refine Sl.drew ?_) | (refine Sl.alloc ?_ _) | (refine Sl.mono ?_ hb1))); first | done | fail)).mono ?_); rintro e w2 ⟨a2, n2, c2, rfl, hs2, hb2, hp2⟩; have hs2 : Sl w2 a2 n2 c2 [1] := hs2; have hB2 : Below wc.heap.size wc w2 := (by (repeat with_reducible (first | (exact Below.refl _ _) | (refine Alg.bdrew ?_) | (refine Alg.balloc ?_ _) | (refine Alg.btrans ?_ hb2) | (refine Alg.btrans ?_ hb1))); first | done | fail); have hx2 := hbc.mono hB2; have hs1' : Sl w2 a1 n1 c1 [] := (by (repeat with_reducible (first | assumption | (refine Sl.mono ?_ hb2) | (refine Sl.alloc ?_ _))); first | done | fail); have hz3 : w1.heap.size ≤ w2.heap.size := (by have := hb2.size; (repeat rw [World.size_alloc] at this); omega); have hX2 : Box w2 (w1.heap.size) #[.int .u32 0, .slice none 0 0, .int .u32 0, .slice none 0 0, .int .u32 0, .slice none 0 0] := (by (repeat with_reducible (first | (exact Box.new' _ _ _ (by first | rfl | exact (World.size_alloc _ _).symm)) | (refine Box.drew ?_) | (refine Box.alloc ?_ _) | (refine Box.mono ?_ hb2) | (refine Box.mono ?_ hb1))); first | done | fail); obtain ⟨⟨q0, q1, q2, q3, q4, q5⟩, z0, z1, z2, z3, z4, z5⟩ := hX2.six)
          | (go_at_call 85; (with_reducible refine (ppoly_of p _ 1 1 [1] _ (by (repeat with_reducible (first | (exact sl_one1' _ _ (by first | rfl | exact (World.size_alloc _ _).symm)) | (refine Sl.drew ?_) | (refine Sl.alloc ?_ _) | (refine Sl.mono ?_ hb1))); first | done | fail)).mono ?_); rintro e w2 ⟨a2, n2, c2, rfl, hs2, hb2, hp2⟩; have hs2 : Sl w2 a2 n2 c2 [1] := hs2; have hB2 : Below wc.heap.size wc w2 := (by (repeat with_reducible (first | (exact Below.refl _ _) | (refine Alg.bdrew ?_) | (refine Alg.balloc ?_ _) | (refine Alg.btrans ?_ hb2) | (refine Alg.btrans ?_ hb1))); first | done | fail); have hx2 := hbc.mono hB2; have hs1' : Sl w2 a1 n1 c1 [] := (by (repeat with_reducible (first | assumption | (refine Sl.mono ?_ hb2) | (refine Sl.alloc ?_ _))); first | done | fail); have hz3 : w1.heap.size ≤ w2.heap.size := (by have := hb2.size; (repeat rw [World.size_alloc] at this); omega); have hX2 : Box w2 (w1.heap.size + 1) #[.int .u32 0, .slice none 0 0, .int .u32 0, .slice none 0 0, .int .u32 0, .slice none 0 0] := (by (repeat with_reducible (first | (exact Box.new' _ _ _ (by first | rfl | exact (World.size_alloc _ _).symm)) | (refine Box.drew ?_) | (refine Box.alloc ?_ _) | (refine Box.mono ?_ hb2) | (refine Box.mono ?_ hb1))); first | done | fail); obtain ⟨⟨q0, q1, q2, q3, q4, q5⟩, z0, z1, z2, z3, z4, z5⟩ := hX2.six)
          | (go_at_call 85; (with_reducible refine (ppoly_of p _ 1 1 [1] _ (by (repeat with_reducible (first | (exact sl_one1' _ _ (by first | rfl | exact (World.size_alloc _ _).symm)) | (refine Sl.drew ?_) | (refine Sl.alloc ?_ _) | (refine Sl.mono ?_ hb1))); first | done | fail)).mono ?_); rintro e w2 ⟨a2, n2, c2, rfl, hs2, hb2, hp2⟩; have hs2 : Sl w2 a2 n2 c2 [1] := hs2; have hB2 : Below wc.heap.size wc w2 := (by (repeat with_reducible (first | (exact Below.refl _ _) | (refine Alg.bdrew ?_) | (refine Alg.balloc ?_ _) | (refine Alg.btrans ?_ hb2) | (refine Alg.btrans ?_ hb1))); first | done | fail); have hx2 := hbc.mono hB2; have hs1' : Sl w2 a1 n1 c1 [] := (by (repeat with_reducible (first | assumption | (refine Sl.mono ?_ hb2) | (refine Sl.alloc ?_ _))); first | done | fail); have hz3 : w1.heap.size ≤ w2.heap.size := (by have := hb2.size; (repeat rw [World.size_alloc] at this); omega); have hNo : True := trivial)
          | fail)
      all_goals go_wp2
      all_goals go_meet
      all_goals
        have hn1 : n1 = 0 := by have := hs1.len; simpa using this.symm
        subst hn1
        have hz0 := hB1.size
        have hz2 := hB2.size
        refine ⟨rfl, _, rfl, ?_⟩
      all_goals first
        | (have _h := hX2
           refine ⟨by omega, by omega, by rw [size_set6]; exact hX2.lt, Alg.Below.set6 hB2 (by omega) _ _ _ _ _ _, Tri.of_set hX2 ⟨hg1.mono hB2, hs1', hs2⟩ (by simp) (Offs.old hg ?_) (fun r _ => Or.inl rfl) ?_⟩)
        | (have _h := hNo
           refine ⟨by omega, by omega, by rw [World.size_alloc]; omega, hB2.alloc hB2.size _, Tri.of_new _ rfl ⟨hg1.mono hB2, hs1', hs2⟩ (Offs.old hg ?_) (fun r _ => Or.inl rfl) ?_⟩)
      all_goals
        intro r hr
        simp only [List.mem_cons, List.not_mem_nil, or_false] at hr
        first
          | omega
          | (rcases hr with rfl | rfl | rfl
             · first
                 | exact hs2.off (by omega)
                 | exact hp2.offb (by first | omega | (simp only [World.size_alloc]; omega)) (by omega)
             · exact hp2.offb (by first | omega | (simp only [World.size_alloc]; omega)) (by omega)
             · exact hp2.offb (by first | omega | (simp only [World.size_alloc]; omega)) (by omega))
    case rest =>
      obtain ⟨rfl, bz, rfl, hxz, hbzg, hbzl, hBd, hTy⟩ := hcut
      have hbd := hbc.mono hBd
      have hTx2 := (hTx.more hbzg).mono hBd
      clear hbc hTx hBd hBc hg1 hbs K
      haveI hne : NeZero p := ⟨by have := hpr.1; omega⟩
      have hI0 := Alg.hid (GInv.start (p := p) hpr fl gl cf cg (fn + gn + 1) (by rw [hf.len, hg.len]; omega))
      go_wp2
      go_loopw [10] (fun _ wr => ∃ X Y, GInv p fl gl (fn + gn + 1) X Y ∧ Boxes w wr [#[.int .u32 (p : Int), .slice fa fn fcap], #[.int .u32 (p : Int), .slice ga gn gcap], (tri 0 none 0 0 none 0 0 none 0 0)] ∧ Tri wr bx p [bz, bx, w.heap.size + 2] X ∧ Tri wr bz p [bz, bx, w.heap.size + 2] Y) (fun _ wr => lenAt wr bz 1)
      case atStart => exact ⟨_, _, hI0.out, hbd, hTx2, hTy⟩
      case round =>
        clear hbd hTx2 hTy hI0 hbxl hbzl hbzg
        obtain ⟨X, Y, hI, hB, hX, hY⟩ := hrel
        have hI := Alg.hid hI
        obtain ⟨oX, oY, gL⟩ := hI.out.ok
        have hbxl := hX.lt
        have hbzl := hY.lt
        have hlen := Alg.hid hY.len
        obtain ⟨a1, n1, c1, a2, n2, c2, a3, n3, c3, bX, sX, oX1, oX2, oX3⟩ := hX
        obtain ⟨b1, m1, d1, b2, m2, d2, b3, m3, d3, bY, sY, oY1, oY2, oY3⟩ := hY
        have l1 := sX.g.len
        have l2 := sX.u.len
        have l3 := sX.v.len
        have k1 := sY.g.len
        have k2 := sY.u.len
        have k3 := sY.v.len
        have hN : X.U.length + Y.G.length ≤ fn + gn + 1 ∧ Y.U.length + X.G.length ≤ fn + gn + 1 ∧ X.V.length + Y.G.length ≤ fn + gn + 1 ∧ Y.V.length + X.G.length ≤ fn + gn + 1 := ⟨gL.a, gL.b, gL.c, gL.d⟩
        clear gL
        obtain ⟨⟨x0, x1, x2, x3, x4, x5⟩, _⟩ := bX.six
        obtain ⟨⟨y0, y1, y2, y3, y4, y5⟩, _⟩ := bY.six
        go_wp2_with fail
        refine (ppoly_Deg p b1 m1 d1 wr (by omega)).mono ?_
        rintro e w1 ⟨rfl, hb1⟩
        have hB1 := hB.mono hb1
        have bX1 := bX.mono hb1
        have bY1 := bY.mono hb1
        have sX1 := sX.mono hb1
        have sY1 := sY.mono hb1
        clear hB bX bY sX sY x0 x1 x2 x3 x4 x5 y0 y1 y2 y3 y4 y5 hbxl hbzl
        obtain ⟨⟨x0, x1, x2, x3, x4, x5⟩, _⟩ := bX1.six
        obtain ⟨⟨y0, y1, y2, y3, y4, y5⟩, _⟩ := bY1.six
        by_cases h0 : m1 = 0
        · have hstop := hI.out.stop (List.length_eq_zero_iff.1 (by omega))
          obtain ⟨eX, gX, lX⟩ := hstop
          have hres : gcdL p fl gl = gfin p X := by rw [eX]; rfl
          have HRES := Alg.hid hres
          clear hres eX
          subst h0
          go_wp2_with fail
          refine (ppoly_Deg p a1 n1 c1 w1 (by omega)).mono ?_
          rintro e w2 ⟨rfl, hb2⟩
          have hB2 := hB1.mono hb2
          have bX2 := bX1.mono hb2
          have sX2 := sX1.mono hb2
          have bR2 : Box w2 (w.heap.size + 1 + 1) _ := hB2.box (j := 2) rfl
          clear hB1 bX1 bY1 sX1 sY1 x0 x1 x2 x3 x4 x5 y0 y1 y2 y3 y4 y5
          obtain ⟨⟨x0, x1, x2, x3, x4, x5⟩, _⟩ := bX2.six
          have oR1 : Off a1 n1 (w.heap.size + 1 + 1) := oX1 _ (by simp)
          have oR2 : Off a2 n2 (w.heap.size + 1 + 1) := oX2 _ (by simp)
          have oR3 : Off a3 n3 (w.heap.size + 1 + 1) := oX3 _ (by simp)
          by_cases hn0 : n1 = 0
          · have e9 : gfin p X = X := by unfold gfin; rw [if_pos (List.length_eq_zero_iff.1 (by omega))]
            obtain ⟨⟨q0, q1, q2, q3, q4, q5⟩, z0, z1, z2, z3, z4, z5⟩ := bR2.six
            subst hn0
            go_wp2
            (try simp only [Exit.inBlock, Exit.then])
            have bR3 := bR2.put6 (.int .u32 (p : Int)) (.slice a1 0 c1) (.int .u32 (p : Int)) (.slice a2 n2 c2) (.int .u32 (p : Int)) (.slice a3 n3 c3)
            obtain ⟨⟨r0, r1, r2, r3, r4, r5⟩, _⟩ := bR3.six
            refine bodyPost_ret (v := .agg (tri p a1 0 c1 a2 n2 c2 a3 n3 c3)) (by simp [results, Tryd.results80, go_sem, r0, r1, r2, r3, r4, r5]) rfl ?_
            rw [HRES.out, e9]
            exact ⟨_, _, _, _, _, _, _, _, _, rfl, sX2.set6 oR1 oR2 oR3 _ _ _ _ _ _, Alg.Below.set6 hB2.below (by omega) _ _ _ _ _ _, fun hne => absurd (List.length_eq_zero_iff.1 sX2.g.len) hne⟩
          · have hXne : X.G ≠ [] := fun h => by rw [h] at l1; simp at l1; omega
            have hn1 : ¬ (n1 : Int) - 1 < 0 := by omega
            have hlead : nth X.G (n1 - 1) ≠ 0 := by
              rcases gX.cg.top with h | h
              · exact absurd h hXne
              · rw [← l1]; exact h
            have e9 : gfin p X = ⟨scL p (powM p (nth X.G (n1 - 1)) (p - 2)) X.G, scL p (powM p (nth X.G (n1 - 1)) (p - 2)) X.U, scL p (powM p (nth X.G (n1 - 1)) (p - 2)) X.V⟩ := by unfold gfin; rw [if_neg hXne, l1]
            have E9 := Alg.hid e9
            have HL := Alg.hid lX
            clear e9 hXne lX
            have hp1 := hpr.1
            have hlt := sX2.g.lt (n1 - 1)
            go_wp2_with fail
            refine (ppoly_lead p a1 n1 c1 X.G w2 sX2.g).mono ?_
            rintro e w3 ⟨rfl, hb3⟩
            go_wp2_with fail
            refine (modp_Inv p (nth X.G (n1 - 1)) w3 (by omega) hp hlt hlead).mono ?_
            rintro e w4 ⟨rfl, rfl⟩
            have hinv : powM p (nth X.G (n1 - 1)) (p - 2) < p := powM_lt _ _ _ (by omega)
            generalize powM p (nth X.G (n1 - 1)) (p - 2) = inv at hinv E9 ⊢
            have bX4 := (bX2.mono hb3).drew
            have bR4 := (bR2.mono hb3).drew
            have sX4 := (sX2.mono hb3).mono (bdrew (Below.refl _ w4))
            have hB4 := (hB2.mono hb3).drew
            clear x0 x1 x2 x3 x4 x5
            have K1 : Hid (∀ W, Box W bx (tri p a1 n1 c1 a2 n2 c2 a3 n3 c3) → W.cell? ⟨bx, 0, none⟩ = some (.int .u32 (p : Int)) ∧ W.cell? ⟨bx, 1, none⟩ = some (.slice a1 n1 c1) ∧ W.cell? ⟨bx, 2, none⟩ = some (.int .u32 (p : Int)) ∧ W.cell? ⟨bx, 3, none⟩ = some (.slice a2 n2 c2) ∧ W.cell? ⟨bx, 4, none⟩ = some (.int .u32 (p : Int)) ∧ W.cell? ⟨bx, 5, none⟩ = some (.slice a3 n3 c3)) := fun W h1 => ⟨h1.cell 0 _ rfl, h1.cell 1 _ rfl, h1.cell 2 _ rfl, h1.cell 3 _ rfl, h1.cell 4 _ rfl, h1.cell 5 _ rfl⟩
            have hz4 := (hB2.mono hb3).size
            simp only [List.length_cons, List.length_nil] at hz4
            have lU := HL.out.b
            have lU1 := HL.out.a
            have lU2 := HL.out.c
            go_wp2
            refine wp_region_noPanic ?_
            refine wp_region_held2 13 [(1, 0), (1, 1), (1, 2), (1, 4), (1, 5), (1, 6), (1, 8), (1, 9), (1, 10), (0, 3), (0, 7), (0, 11), (2, 12), (3, 13)] (fun W => W.cell? ⟨bx, 0, none⟩ = some (.int .u32 (p : Int)) ∧ W.cell? ⟨bx, 1, none⟩ = some (.slice a1 n1 c1) ∧ W.cell? ⟨bx, 2, none⟩ = some (.int .u32 (p : Int)) ∧ W.cell? ⟨bx, 3, none⟩ = some (.slice a2 n2 c2) ∧ W.cell? ⟨bx, 4, none⟩ = some (.int .u32 (p : Int)) ∧ W.cell? ⟨bx, 5, none⟩ = some (.slice a3 n3 c3)) (fun _ => True) (by kernel_rfl) (by kernel_rfl) (fun _ _ _ _ _ h => h) (fun _ _ => trivial) (K1.out _ bX4) (fun _ => ?_)
            simp only [pick2, List.getElem?_cons_succ, List.getElem?_cons_zero]
            iterate 9
              (refine held2_early (v := ?_) (by rfl) ?_ ?_
               rotate_left
               · intro W hSw; (try dsimp only at hSw); go_simp; (try with_reducible rfl))
              try simp only [Act.put, List.setIfInBounds_toArray, List.set_cons_zero, List.set_cons_succ]
            refine held2_loud (fun K hK => ?_)
            go_simp
            refine (ppoly_Scale p inv a1 n1 c1 X.G w4.drew sX4.g (by omega) hp (by omega) (by omega)).mono ?_
            rintro e w5 ⟨u1, v1, cc1, rfl, hs5, hb5, hp5⟩
            have bX5 := bX4.mono hb5
            have bR5 := bR4.mono hb5
            have sX5 := sX4.mono hb5
            have hB5 := hB4.mono hb5
            refine hK.out _ _ (K1.out _ bX5) (fun _ => ?_)
            clear hK K
            try simp only [Act.put, List.setIfInBounds_toArray, List.set_cons_zero, List.set_cons_succ]

            refine held2_loud (fun K hK => ?_)
            go_simp
            refine (ppoly_Scale p inv a2 n2 c2 X.U w5 sX5.u (by omega) hp (by omega) (by omega)).mono ?_
            rintro e w6 ⟨u2, v2, cc2, rfl, hs6, hb6, hp6⟩
            have bX6 := bX5.mono hb6
            have bR6 := bR5.mono hb6
            have sX6 := sX5.mono hb6
            have hB6 := hB5.mono hb6
            refine hK.out _ _ (K1.out _ bX6) (fun _ => ?_)
            clear hK K
            try simp only [Act.put, List.setIfInBounds_toArray, List.set_cons_zero, List.set_cons_succ]

            refine held2_loud (fun K hK => ?_)
            go_simp
            refine (ppoly_Scale p inv a3 n3 c3 X.V w6 sX6.v (by omega) hp (by omega) (by omega)).mono ?_
            rintro e w7 ⟨u3, v3, cc3, rfl, hs7, hb7, hp7⟩
            have bX7 := bX6.mono hb7
            have bR7 := bR6.mono hb7
            have sX7 := sX6.mono hb7
            have hB7 := hB6.mono hb7
            refine hK.out _ _ (K1.out _ bX7) (fun _ => ?_)
            clear hK K
            try simp only [Act.put, List.setIfInBounds_toArray, List.set_cons_zero, List.set_cons_succ]

            refine held2_quiet (v := ?_) (by rfl) ?_ ?_
            rotate_left
            · intro W hSw; (try dsimp only at hSw); go_simp; (try with_reducible rfl)
            try simp only [Act.put, List.setIfInBounds_toArray, List.set_cons_zero, List.set_cons_succ]
            obtain ⟨⟨q0, q1, q2, q3, q4, q5⟩, z0, z1, z2, z3, z4, z5⟩ := bR7.six
            refine held2_store (fun K hK => ?_)
            go_simp
            refine hK.out _ _ trivial (fun _ => ?_)
            clear hK K
            try simp only [Act.put, List.setIfInBounds_toArray, List.set_cons_zero, List.set_cons_succ]
            refine held2_nil ?_
            refine NoPanic.normal ?_
            have f1 : trim ((List.range n1).map fun i => mulM p (nth X.G i) inv) = scL p inv X.G := by unfold scL; rw [l1]
            have f2 : trim ((List.range n2).map fun i => mulM p (nth X.U i) inv) = scL p inv X.U := by unfold scL; rw [l2]
            have f3 : trim ((List.range n3).map fun i => mulM p (nth X.V i) inv) = scL p inv X.V := by unfold scL; rw [l3]
            rw [f1] at hs5
            rw [f2] at hs6
            rw [f3] at hs7
            have z4 := hb5.size
            have z5 := hb6.size
            have z4' : w4.heap.size ≤ w5.heap.size := hb5.size
            have oS1 : Off u1 v1 (w.heap.size + 1 + 1) := hp5.off0 (by show _ < w4.heap.size; omega)
            have oS2 : Off u2 v2 (w.heap.size + 1 + 1) := hp6.off0 (by omega)
            have oS3 : Off u3 v3 (w.heap.size + 1 + 1) := hp7.off0 (by omega)
            go_wp2
            (try simp only [Exit.inBlock, Exit.then])
            have bR8 := bR7.put6 (.int .u32 (p : Int)) (.slice u1 v1 cc1) (.int .u32 (p : Int)) (.slice u2 v2 cc2) (.int .u32 (p : Int)) (.slice u3 v3 cc3)
            obtain ⟨⟨r0, r1, r2, r3, r4, r5⟩, _⟩ := bR8.six
            refine bodyPost_ret (v := .agg (tri p u1 v1 cc1 u2 v2 cc2 u3 v3 cc3)) (by simp [results, Tryd.results80, go_sem, r0, r1, r2, r3, r4, r5]) rfl ?_
            rw [HRES.out, E9.out]
            have sF : Sl3 w7 u1 v1 cc1 u2 v2 cc2 u3 v3 cc3 ⟨scL p inv X.G, scL p inv X.U, scL p inv X.V⟩ := ⟨(hs5.mono hb6).mono hb7, hs6.mono hb7, hs7⟩
            exact ⟨_, _, _, _, _, _, _, _, _, rfl, sF.set6 oS1 oS2 oS3 _ _ _ _ _ _, Alg.Below.set6 hB7.below (by omega) _ _ _ _ _ _, fun _ => ⟨hp5.mono (by (try show _ ≤ w4.heap.size); omega), hp6.mono (by omega), hp7.mono (by omega)⟩⟩
        · have hyne : Y.G ≠ [] := fun h => by rw [h] at k1; simp at k1; omega
          have hm1 : (0 : Int) ≤ (m1 : Int) - 1 := by omega
          have hlead : nth Y.G (m1 - 1) ≠ 0 := by
            rcases oY.cg.top with h | h
            · exact absurd h hyne
            · rw [← k1]; exact h
          have HS := Alg.hid (hI.out.step hpr hyne)
          have HQ := Alg.hid (divQ_len p X.G Y.G)
          have HR := Alg.hid (divR_len p X.G Y.G)
          have hp1 := hpr.1
          go_wp2_with fail
          refine (ppoly_DivMod p a1 n1 c1 X.G b1 m1 d1 Y.G p w1 sX1.g sY1.g (by omega) hlead (by omega) hp (by omega) (by omega)).mono ?_
          rintro e w2 ⟨qa, qn, qc, ra, rn, rc, rfl, hq2, hr2, hb2, hpq, hpr2⟩
          have hy2 := boxes2 w2 #[.int .u32 (p : Int), .slice qa qn qc] #[.int .u32 (p : Int), .slice ra rn rc] 47 47
          have lq := hq2.len
          have lr := hr2.len
          have lq2 := HQ.out
          have lr2 := HR.out
          go_wp2
          generalize hW3 : ((w2.alloc (.cells #[.int .u32 (p : Int), .slice qa qn qc] 47)).alloc (.cells #[.int .u32 (p : Int), .slice ra rn rc] 47)) = w3 at hy2 ⊢
          clear hW3
          have hB3 := ((hB1.mono hb2).mono hy2.below).drew
          have bX3 := ((bX1.mono hb2).mono hy2.below).drew
          have bY3 := ((bY1.mono hb2).mono hy2.below).drew
          have sX3 := ((sX1.mono hb2).mono hy2.below).mono (bdrew (Below.refl _ w3))
          have sY3 := ((sY1.mono hb2).mono hy2.below).mono (bdrew (Below.refl _ w3))
          have hq3 := (hq2.mono hy2.below).drew
          have hr3 := (hr2.mono hy2.below).drew
          have hy3 := hy2.drew
          have hw23 := hy2.below
          have bxl1 := bX1.lt
          have bzl1 := bY1.lt
          have hb2s := hb2.size
          have K1 : Hid (∀ W, Boxes w W [#[.int .u32 (p : Int), .slice fa fn fcap], #[.int .u32 (p : Int), .slice ga gn gcap], (tri 0 none 0 0 none 0 0 none 0 0)] → Box W bx (tri p a1 n1 c1 a2 n2 c2 a3 n3 c3) → Box W bz (tri p b1 m1 d1 b2 m2 d2 b3 m3 d3) → Boxes w2 W [#[.int .u32 (p : Int), .slice qa qn qc], #[.int .u32 (p : Int), .slice ra rn rc]] → (fun W => W.cell? ⟨bx, 2, none⟩ = some (.int .u32 (p : Int)) ∧ W.cell? ⟨bx, 3, none⟩ = some (.slice a2 n2 c2) ∧ W.cell? ⟨bx, 4, none⟩ = some (.int .u32 (p : Int)) ∧ W.cell? ⟨bx, 5, none⟩ = some (.slice a3 n3 c3) ∧ W.cell? ⟨bz, 0, none⟩ = some (.int .u32 (p : Int)) ∧ W.cell? ⟨bz, 1, none⟩ = some (.slice b1 m1 d1) ∧ W.cell? ⟨bz, 2, none⟩ = some (.int .u32 (p : Int)) ∧ W.cell? ⟨bz, 3, none⟩ = some (.slice b2 m2 d2) ∧ W.cell? ⟨bz, 4, none⟩ = some (.int .u32 (p : Int)) ∧ W.cell? ⟨bz, 5, none⟩ = some (.slice b3 m3 d3) ∧ W.cell? ⟨w2.heap.size, 0, none⟩ = some (.int .u32 (p : Int)) ∧ W.cell? ⟨w2.heap.size, 1, none⟩ = some (.slice qa qn qc) ∧ W.cell? ⟨w2.heap.size + 1, 0, none⟩ = some (.int .u32 (p : Int)) ∧ W.cell? ⟨w2.heap.size + 1, 1, none⟩ = some (.slice ra rn rc)) W) :=
            fun W _ h1 h2 h3 => ⟨h1.cell 2 _ rfl, h1.cell 3 _ rfl, h1.cell 4 _ rfl, h1.cell 5 _ rfl, h2.cell 0 _ rfl, h2.cell 1 _ rfl, h2.cell 2 _ rfl, h2.cell 3 _ rfl, h2.cell 4 _ rfl, h2.cell 5 _ rfl, h3.cell' 0 0 _ _ rfl rfl, h3.cell' 0 1 _ _ rfl rfl, h3.cell' 1 0 _ _ rfl rfl, h3.cell' 1 1 _ _ rfl rfl⟩
          have HM1 := Alg.hid (mulL_len2 p (trim (divL p X.G Y.G).1) Y.U)
          have HM2 := Alg.hid (mulL_len2 p (trim (divL p X.G Y.G).1) Y.V)
          have HC1 := Alg.hid (mulL_ok (p := p) (trim (divL p X.G Y.G).1) Y.U).2
          have HC2 := Alg.hid (mulL_ok (p := p) (trim (divL p X.G Y.G).1) Y.V).2
          clear hy2 bX1 bY1 sX1 sY1 hB1 hq2 hr2
          refine wp_region_noPanic ?_
          refine wp_region_held2 17 [(1, 0), (2, 1), (1, 2), (1, 3), (1, 4), (1, 5), (1, 6), (1, 9), (1, 10), (1, 11), (1, 12), (1, 13), (0, 7), (0, 8), (0, 14), (0, 15), (2, 16), (3, 17), (0, 18)] (fun W => W.cell? ⟨bx, 2, none⟩ = some (.int .u32 (p : Int)) ∧ W.cell? ⟨bx, 3, none⟩ = some (.slice a2 n2 c2) ∧ W.cell? ⟨bx, 4, none⟩ = some (.int .u32 (p : Int)) ∧ W.cell? ⟨bx, 5, none⟩ = some (.slice a3 n3 c3) ∧ W.cell? ⟨bz, 0, none⟩ = some (.int .u32 (p : Int)) ∧ W.cell? ⟨bz, 1, none⟩ = some (.slice b1 m1 d1) ∧ W.cell? ⟨bz, 2, none⟩ = some (.int .u32 (p : Int)) ∧ W.cell? ⟨bz, 3, none⟩ = some (.slice b2 m2 d2) ∧ W.cell? ⟨bz, 4, none⟩ = some (.int .u32 (p : Int)) ∧ W.cell? ⟨bz, 5, none⟩ = some (.slice b3 m3 d3) ∧ W.cell? ⟨w2.heap.size, 0, none⟩ = some (.int .u32 (p : Int)) ∧ W.cell? ⟨w2.heap.size, 1, none⟩ = some (.slice qa qn qc) ∧ W.cell? ⟨w2.heap.size + 1, 0, none⟩ = some (.int .u32 (p : Int)) ∧ W.cell? ⟨w2.heap.size + 1, 1, none⟩ = some (.slice ra rn rc)) (fun W => W.cell? ⟨w2.heap.size + 1, 0, none⟩ = some (.int .u32 (p : Int)) ∧ W.cell? ⟨w2.heap.size + 1, 1, none⟩ = some (.slice ra rn rc)) (by kernel_rfl) (by kernel_rfl) (fun _ _ _ _ _ h => h) (fun W h => ⟨h.2.2.2.2.2.2.2.2.2.2.2.2.1, h.2.2.2.2.2.2.2.2.2.2.2.2.2⟩) (K1.out _ hB3 bX3 bY3 hy3) (fun _ => ?_)
          simp only [pick2, List.getElem?_cons_succ, List.getElem?_cons_zero]
          iterate 12
            first
              | (refine held2_early (v := ?_) (by rfl) ?_ ?_
                 rotate_left
                 · intro W hSw; (try dsimp only at hSw); go_simp; (try with_reducible rfl))
              | (refine held2_quiet (v := ?_) (by rfl) ?_ ?_
                 rotate_left
                 · intro W hSw; (try dsimp only at hSw); go_simp; (try with_reducible rfl))
            try simp only [Act.put, List.setIfInBounds_toArray, List.set_cons_zero, List.set_cons_succ]
          refine held2_loud (fun K hK => ?_)
          go_simp
          refine (ppoly_Mul p qa qn qc (trim (divL p X.G Y.G).1) b2 m2 d2 Y.U p w3.drew hq3 sY3.u (by omega) hp (by omega) (by omega)).mono ?_
          rintro e w4 ⟨u1, v1, cc1, rfl, hs4, hb4, hp4⟩
          have hB4 := hB3.mono hb4
          have bX4 := bX3.mono hb4
          have bY4 := bY3.mono hb4
          have hy4 := hy3.mono hb4
          have sX4 := sX3.mono hb4
          have sY4 := sY3.mono hb4
          have hq4 := hq3.mono hb4
          have hr4 := hr3.mono hb4
          have lu := hs4.len
          have lm := HM1.out
          refine hK.out _ _ (K1.out _ hB4 bX4 bY4 hy4) (fun _ => ?_)
          clear hK K
          try simp only [Act.put, List.setIfInBounds_toArray, List.set_cons_zero, List.set_cons_succ]

          refine held2_loud (fun K hK => ?_)
          go_simp
          refine (ppoly_Sub p a2 n2 c2 X.U u1 v1 cc1 _ p w4 sX4.u hs4 (by omega) hp (canon_le HC1.out) (by omega) (by rcases lm with h | h; (omega); (rw [h] at lu; simp at lu; omega))).mono ?_
          rintro e w5 ⟨u2, v2, cc2, rfl, hs5, hb5, hp5⟩
          have hB5 := hB4.mono hb5
          have bX5 := bX4.mono hb5
          have bY5 := bY4.mono hb5
          have hy5 := hy4.mono hb5
          have sX5 := sX4.mono hb5
          have sY5 := sY4.mono hb5
          have hq5 := hq4.mono hb5
          have hr5 := hr4.mono hb5
          refine hK.out _ _ (K1.out _ hB5 bX5 bY5 hy5) (fun _ => ?_)
          clear hK K
          try simp only [Act.put, List.setIfInBounds_toArray, List.set_cons_zero, List.set_cons_succ]

          refine held2_loud (fun K hK => ?_)
          go_simp
          refine (ppoly_Mul p qa qn qc (trim (divL p X.G Y.G).1) b3 m3 d3 Y.V p w5 hq5 sY5.v (by omega) hp (by omega) (by omega)).mono ?_
          rintro e w6 ⟨u3, v3, cc3, rfl, hs6, hb6, hp6⟩
          have hB6 := hB5.mono hb6
          have bX6 := bX5.mono hb6
          have bY6 := bY5.mono hb6
          have hy6 := hy5.mono hb6
          have sX6 := sX5.mono hb6
          have sY6 := sY5.mono hb6
          have hr6 := hr5.mono hb6
          have hs5' := hs5.mono hb6
          have lu6 := hs6.len
          have lm6 := HM2.out
          refine hK.out _ _ (K1.out _ hB6 bX6 bY6 hy6) (fun _ => ?_)
          clear hK K
          try simp only [Act.put, List.setIfInBounds_toArray, List.set_cons_zero, List.set_cons_succ]

          refine held2_loud (fun K hK => ?_)
          go_simp
          refine (ppoly_Sub p a3 n3 c3 X.V u3 v3 cc3 _ p w6 sX6.v hs6 (by omega) hp (canon_le HC2.out) (by omega) (by rcases lm6 with h | h; (omega); (rw [h] at lu6; simp at lu6; omega))).mono ?_
          rintro e w7 ⟨u4, v4, cc4, rfl, hs7, hb7, hp7⟩
          have hB7 := hB6.mono hb7
          have bX7 := bX6.mono hb7
          have bY7 := bY6.mono hb7
          have hy7 := hy6.mono hb7
          have sX7 := sX6.mono hb7
          have sY7 := sY6.mono hb7
          have hr7 := hr6.mono hb7
          have hs5'' := hs5'.mono hb7
          refine hK.out _ _ (K1.out _ hB7 bX7 bY7 hy7) (fun _ => ?_)
          clear hK K
          try simp only [Act.put, List.setIfInBounds_toArray, List.set_cons_zero, List.set_cons_succ]

          refine held2_quiet (v := ?_) (by rfl) ?_ ?_
          rotate_left
          · intro W hSw; (try dsimp only at hSw); go_simp; (try with_reducible rfl)
          try simp only [Act.put, List.setIfInBounds_toArray, List.set_cons_zero, List.set_cons_succ]
          have e5 : trim ((List.range (max n2 v1)).map fun i => subM p (nth X.U i) (nth (mulL p (trim (divL p X.G Y.G).1) Y.U) i)) = (gstep p X Y).U := by show _ = sbL _ _ _; unfold sbL; rw [l2, lu]
          have e7 : trim ((List.range (max n3 v3)).map fun i => subM p (nth X.V i) (nth (mulL p (trim (divL p X.G Y.G).1) Y.V) i)) = (gstep p X Y).V := by show _ = sbL _ _ _; unfold sbL; rw [l3, lu6]
          rw [e5] at hs5''
          rw [e7] at hs7
          have bR7 := hy7.box (j := 1) rfl
          have s34 : w3.heap.size ≤ w4.heap.size := hb4.size
          have s45 := hb5.size
          have s56 := hb6.size
          have hw2s := hw23.size
          have oR : Offs [bz, bx, w.heap.size + 2] ra rn := Offs.fresh hpr2 (by intro r hr; simp only [List.mem_cons, List.not_mem_nil, or_false] at hr; omega)
          have oU : Offs [bz, bx, w.heap.size + 2] u2 v2 := Offs.fresh hp5 (by intro r hr; simp only [List.mem_cons, List.not_mem_nil, or_false] at hr; omega)
          have oV : Offs [bz, bx, w.heap.size + 2] u4 v4 := Offs.fresh hp7 (by intro r hr; simp only [List.mem_cons, List.not_mem_nil, or_false] at hr; omega)
          obtain ⟨⟨q0, q1, q2, q3, q4, q5⟩, z0, z1, z2, z3, z4, z5⟩ := bX7.six
          refine held2_store (fun K hK => ?_)
          go_simp
          have bY8 : Box (set6 w7 bx _ _ _ _ _ _) bz _ := bY7.other6 (by omega) (.int .u32 (p : Int)) (.slice b1 m1 d1) (.int .u32 (p : Int)) (.slice b2 m2 d2) (.int .u32 (p : Int)) (.slice b3 m3 d3)
          have bR8 : Box (set6 w7 bx _ _ _ _ _ _) (w2.heap.size + 1) _ := bR7.other6 (by omega) (.int .u32 (p : Int)) (.slice b1 m1 d1) (.int .u32 (p : Int)) (.slice b2 m2 d2) (.int .u32 (p : Int)) (.slice b3 m3 d3)
          have t1 : Tri (set6 w7 bx _ _ _ _ _ _) bx p [bz, bx, w.heap.size + 2] Y := Tri.of_set bX7 sY7 (by simp) oY1 oY2 oY3
          have hB8 := hB7.set6 (b := bx) hbxg (.int .u32 (p : Int)) (.slice b1 m1 d1) (.int .u32 (p : Int)) (.slice b2 m2 d2) (.int .u32 (p : Int)) (.slice b3 m3 d3)
          have g1 := hr7.set6 (oR bx (by simp)) (.int .u32 (p : Int)) (.slice b1 m1 d1) (.int .u32 (p : Int)) (.slice b2 m2 d2) (.int .u32 (p : Int)) (.slice b3 m3 d3)
          have g2 := hs5''.set6 (oU bx (by simp)) (.int .u32 (p : Int)) (.slice b1 m1 d1) (.int .u32 (p : Int)) (.slice b2 m2 d2) (.int .u32 (p : Int)) (.slice b3 m3 d3)
          have g3 := hs7.set6 (oV bx (by simp)) (.int .u32 (p : Int)) (.slice b1 m1 d1) (.int .u32 (p : Int)) (.slice b2 m2 d2) (.int .u32 (p : Int)) (.slice b3 m3 d3)
          refine hK.out _ _ ⟨bR8.cell 0 _ rfl, bR8.cell 1 _ rfl⟩ (fun _ => ?_)
          clear hK K q0 q1 q2 q3 q4 q5 z0 z1 z2 z3 z4 z5
          try simp only [Act.put, List.setIfInBounds_toArray, List.set_cons_zero, List.set_cons_succ]
          unfold set6 at bY8 bR8 t1 hB8 g1 g2 g3
          generalize hw8 : ((((((w7.setCell ⟨bx, 0, none⟩ (.int .u32 (p : Int))).setCell ⟨bx, 1, none⟩ (.slice b1 m1 d1)).setCell ⟨bx, 2, none⟩ (.int .u32 (p : Int))).setCell ⟨bx, 3, none⟩ (.slice b2 m2 d2)).setCell ⟨bx, 4, none⟩ (.int .u32 (p : Int))).setCell ⟨bx, 5, none⟩ (.slice b3 m3 d3)) = w8 at bY8 bR8 t1 hB8 g1 g2 g3 ⊢
          obtain ⟨⟨q0, q1, q2, q3, q4, q5⟩, z0, z1, z2, z3, z4, z5⟩ := bY8.six
          refine held2_loud' (fun K hK => ?_)
          go_simp
          have hbzne : w2.heap.size + 1 ≠ bz := by omega
          have bR9 := bR8.other6 hbzne (.int .u32 (p : Int)) (.slice ra rn rc) (.int .u32 (p : Int)) (.slice u2 v2 cc2) (.int .u32 (p : Int)) (.slice u4 v4 cc4)
          refine hK.out _ _ ⟨bR9.cell 0 _ rfl, bR9.cell 1 _ rfl⟩ (fun _ => ?_)
          clear hK K q0 q1 q2 q3 q4 q5 z0 z1 z2 z3 z4 z5
          try simp only [Act.put, List.setIfInBounds_toArray, List.set_cons_zero, List.set_cons_succ]
          refine held2_nil ?_
          refine NoPanic.normal ?_
          have t2 : Tri (set6 w8 bz _ _ _ _ _ _) bx p [bz, bx, w.heap.size + 2] Y := t1.other (by simp) (by omega) (.int .u32 (p : Int)) (.slice ra rn rc) (.int .u32 (p : Int)) (.slice u2 v2 cc2) (.int .u32 (p : Int)) (.slice u4 v4 cc4)
          have t3 : Tri (set6 w8 bz _ _ _ _ _ _) bz p [bz, bx, w.heap.size + 2] (gstep p X Y) := Tri.of_set bY8 ⟨g1, g2, g3⟩ (by simp) oR oU oV
          have hB9 := hB8.set6 (b := bz) (by show w.heap.size + 3 ≤ bz; omega) (.int .u32 (p : Int)) (.slice ra rn rc) (.int .u32 (p : Int)) (.slice u2 v2 cc2) (.int .u32 (p : Int)) (.slice u4 v4 cc4)
          go_wp2
          go_roundw
          case rel => exact ⟨Y, gstep p X Y, HS.out.1, hB9, t2, t3⟩
          case measure =>
            have := HS.out.2
            have h9 := t3.len
            have h10 := hlen.out
            rw [h10]
            exact Nat.lt_of_le_of_lt (Nat.le_of_eq h9) this
theorem ppoly_Gcd (p : Nat) (fa : Option Addr) (fn fcap : Nat) (fl : List Nat) (ga : Option Addr) (gn gcap : Nat) (gl : List Nat) (w : World) (hf : Sl w fa fn fcap fl) (hg : Sl w ga gn gcap gl)
    (hpr : IsPr p) (hp : p < 4294967296) (hfn : fn ≤ 274877906944) (hgn : gn ≤ 274877906944) (cf : Canon p fl) (cg : Canon p gl) :
    Calls Tryd.prog 80 #[.agg #[.int .u32 p, .slice fa fn fcap], .agg #[.int .u32 p, .slice ga gn gcap]] w (RetT p (gcdL p fl gl) w):=
  (ppoly_GcdP p fa fn fcap fl ga gn gcap gl w hf hg hpr hp hfn hgn cf cg).mono fun _ _ h => h.t
end Go.Proofs.YtbnjmeeaaieicaaDoor
