/- Contracts of whole.of, whole.Of. -/
import Derived.Test.YtbnjmeeaaieicaaDoorE2
import Derived.Test.YtbnjmeeaaieicaaDoorA9
open Alg Go Go.RowKit
namespace Alg
/-- the call hands back a whole number -/
def RetI (neg : Bool) (l : List Nat) (w : World) (e : Ending) (w' : World) : Prop :=
  ∃ a n, e = .returned (.agg #[.bool neg, .slice a n n]) ∧ Sl w' a n n l ∧ Below w.heap.size w w' ∧ Prov w [] a n
end Alg
theorem own_one {w : World} {B size : Nat} {e : TypeId} {v : Value} {xs : List Value} (h : w.ownsRow B e size v (0 + 1) xs) : ∃ g cap, v = .slice (some ⟨g, 0, none⟩) (0 + 1) cap ∧ ∀ j, j < size → w.cell? ⟨g, j, none⟩ = xs[j]? := by
  have h' := h
  rcases h.2 with ⟨_, h0⟩ | ⟨g, cap, cur, hv, _⟩
  · omega
  · subst hv
    exact ⟨g, cap, rfl, fun j hj => h'.cellAt j (by omega)⟩
theorem news_two {w : World} {v1 v2 : Value} {t : TypeId} : ∀ (j : Nat) (u : Value), [v1, v2][j]? = some u → (w.alloc (.cells #[v1, v2] t)).cell? ((⟨w.heap.size, 0, none⟩ : Addr).add j) = some u := by
  intro j u h
  have e : (⟨w.heap.size, 0, none⟩ : Addr).add j = ⟨w.heap.size, j, none⟩ := by
    unfold Addr.add; split
    · rename_i h0; subst h0; rfl
    · simp
  rw [e, cell_box]
  simpa using h
namespace Go.Proofs.YtbnjmeeaaieicaaDoor
open Go.RowKit
theorem whole_of_t1 (a : Option Addr) (n cap : Nat) (w : World) (h0 : 0 < n) :
    Calls Tryd.prog 108 #[.bool true, .slice a n cap] w fun e w' => e = .returned (.agg #[.bool true, .slice a n cap]) ∧ Below w.heap.size w w' := by
  have hbx := boxes1 w #[.bool true, .slice a n cap] 25
  have H0 := Alg.hid h0
  have hi : (0 : Int) < (n : Int) := by omega
  clear h0
  go_enter Tryd.func108, Tryd.ntmps108
  go_wp2
  (try simp only [Exit.inBlock, Exit.then])
  refine bodyPost_ret (v := .agg #[.bool true, .slice a n cap]) (by simp [results, Tryd.results108, go_sem, H0.out]) rfl ?_
  exact ⟨rfl, by go_grown⟩
theorem whole_of_t0 (a : Option Addr) (n cap : Nat) (w : World) (h0 : ¬ 0 < n) :
    Calls Tryd.prog 108 #[.bool true, .slice a n cap] w fun e w' => e = .returned (.agg #[.bool false, .slice a n cap]) ∧ Below w.heap.size w w' := by
  have hbx := boxes1 w #[.bool false, .slice a n cap] 25
  have H0 := Alg.hid h0
  have hi : ¬ (0 : Int) < (n : Int) := by omega
  clear h0
  go_enter Tryd.func108, Tryd.ntmps108
  go_wp2
  (try simp only [Exit.inBlock, Exit.then])
  refine bodyPost_ret (v := .agg #[.bool false, .slice a n cap]) (by simp [results, Tryd.results108, go_sem, H0.out]) rfl ?_
  exact ⟨rfl, by go_grown⟩
theorem whole_of_f1 (a : Option Addr) (n cap : Nat) (w : World) :
    Calls Tryd.prog 108 #[.bool false, .slice a n cap] w fun e w' => e = .returned (.agg #[.bool false, .slice a n cap]) ∧ Below w.heap.size w w' := by
  have hbx := boxes1 w #[.bool false, .slice a n cap] 25
  go_enter Tryd.func108, Tryd.ntmps108
  go_wp2
  (try simp only [Exit.inBlock, Exit.then])
  refine bodyPost_ret (v := .agg #[.bool false, .slice a n cap]) (by simp [results, Tryd.results108, go_sem]) rfl ?_
  exact ⟨rfl, by go_grown⟩
theorem limbs_pos {n : Nat} (h : 0 < n) (hn : n < 18446744073709551616) : 0 < (limbs n).length := by
  unfold limbs
  rcases Nat.eq_zero_or_pos (trim [n % 4294967296, n / 4294967296]).length with h0 | h0
  · have h1 := List.length_eq_zero_iff.1 h0
    have e0 := trim_getD [n % 4294967296, n / 4294967296] 0
    have e1 := trim_getD [n % 4294967296, n / 4294967296] 1
    rw [h1] at e0 e1
    simp at e0 e1
    omega
  · exact h0
set_option maxRecDepth 100000 in
theorem whole_Of_nat (n : Nat) (w : World) (hn : n < 9223372036854775808) :
    Calls Tryd.prog 72 #[.int .i64 n] w (RetI false (limbs n) w) := by
  have hbx := boxes1 w #[.bool false, .slice none 0 0] 25
  have hi : ¬ (n : Int) < 0 := by omega
  have e1 : IntKind.u64.wrap (n : Int) = (n : Int) := IntWalk.u64_in _ (by omega)
  go_enter Tryd.func72, Tryd.ntmps72
  go_wp2_with fail
  refine (nat_Of n _ (by omega)).mono ?_
  rintro e w1 ⟨a, m, rfl, hs1, hb1, hp1⟩
  go_wp2_with fail
  refine (whole_of_f1 a m m w1).mono ?_
  rintro e w2 ⟨rfl, hb2⟩
  have hx := (hbx.mono hb1).mono hb2
  have e0 := hx.cell' 0 0 _ _ rfl rfl
  have e2 := hx.cell' 0 1 _ _ rfl rfl
  have f0 := hx.frozen' 0 0 (by simp)
  have f1 := hx.frozen' 0 1 (by simp)
  simp only [Nat.add_zero] at e0 e2 f0 f1
  have hof : Off a m w.heap.size := hp1.off0 (by simp)
  go_wp2
  (try simp only [Exit.inBlock, Exit.then])
  refine bodyPost_ret (v := .agg #[.bool false, .slice a m m]) (by simp [results, Tryd.results72, go_sem, e0, e2]) rfl ?_
  exact ⟨_, _, rfl, ((hs1.mono hb2).setCell hof _).setCell hof _, ((hx.below.setCell (p := ⟨w.heap.size, 0, none⟩) (by simp) _).setCell (p := ⟨w.heap.size, 1, none⟩) (by simp) _), hp1.mono (by simp)⟩
set_option maxRecDepth 100000 in
theorem whole_Of_neg (n : Nat) (w : World) (h0 : 0 < n) (hn : n < 9223372036854775808) :
    Calls Tryd.prog 72 #[.int .i64 (-(n : Int))] w (RetI true (limbs n) w) := by
  have hbx := boxes1 w #[.bool false, .slice none 0 0] 25
  have hi : (-(n : Int)) < 0 := by omega
  have HL := Alg.hid (limbs_pos h0 (by omega))
  have e1 : IntKind.i64.wrap (-(n : Int) + 1) = -(n : Int) + 1 := IntWalk.i64_in _ (by omega)
  have e2 : IntKind.i64.wrap (-(-(n : Int) + 1)) = (n : Int) - 1 := by rw [IntWalk.i64_in _ (by omega)]; omega
  have e3 : IntKind.u64.wrap ((n : Int) - 1) = (n : Int) - 1 := IntWalk.u64_in _ (by omega)
  have e4 : IntKind.u64.wrap ((n : Int) - 1 + 1) = (n : Int) := by rw [IntWalk.u64_in _ (by omega)]; omega
  go_enter Tryd.func72, Tryd.ntmps72
  go_wp2_with fail
  refine (nat_Of n _ (by omega)).mono ?_
  rintro e w1 ⟨a, m, rfl, hs1, hb1, hp1⟩
  have hm := hs1.len
  go_wp2_with fail
  refine (whole_of_t1 a m m w1 (by have := HL.out; omega)).mono ?_
  rintro e w2 ⟨rfl, hb2⟩
  have hx := (hbx.mono hb1).mono hb2
  have g0 := hx.cell' 0 0 _ _ rfl rfl
  have g2 := hx.cell' 0 1 _ _ rfl rfl
  have f0 := hx.frozen' 0 0 (by simp)
  have f1 := hx.frozen' 0 1 (by simp)
  simp only [Nat.add_zero] at g0 g2 f0 f1
  have hof : Off a m w.heap.size := hp1.off0 (by simp)
  go_wp2
  (try simp only [Exit.inBlock, Exit.then])
  refine bodyPost_ret (v := .agg #[.bool true, .slice a m m]) (by simp [results, Tryd.results72, go_sem, g0, g2]) rfl ?_
  exact ⟨_, _, rfl, ((hs1.mono hb2).setCell hof _).setCell hof _, ((hx.below.setCell (p := ⟨w.heap.size, 0, none⟩) (by simp) _).setCell (p := ⟨w.heap.size, 1, none⟩) (by simp) _), hp1.mono (by simp)⟩
theorem Tryd.infoI : (Tryd.prog.info? 25).map (fun i => (i.zero, i.size, i.bytes)) = some (some (.agg #[.bool false, .slice none 0 0]), 2, 32) := by kernel_rfl
set_option maxRecDepth 100000 in
set_option maxHeartbeats 1000000 in
theorem ppoly_Sym3 (a : Option Addr) (cap : Nat) (w : World) (h : Sl w a 1 cap [3]) :
    Calls Tryd.prog 67 #[.agg #[.int .u32 5, .slice a 1 cap]] w fun e w' => (∃ g c, e = .returned (.slice (some ⟨g, 0, none⟩) 1 c) ∧ w'.cell? ⟨g, 0, none⟩ = some (.bool true)) ∧ Below w.heap.size w w' := by
  obtain ⟨i0, hi, hz0, hz1, hz2⟩ := info_parts Tryd.infoI
  have hbx := boxes1 w #[.int .u32 5, .slice a 1 cap] 47
  rcases h.rd with h0 | ⟨b, off, rfl, hc⟩
  · omega
  have c0 : w.cell? ⟨b, off + 0, none⟩ = some (.int .u32 3) := hc 0 (by omega)
  simp only [Nat.add_zero] at c0
  clear hc
  go_enter Tryd.func67, Tryd.ntmps67
  go_wp2
  go_loopw [3, 10] (fun v i wr => Boxes w wr [#[.int .u32 5, .slice (some ⟨b, off, none⟩) 1 cap]] ∧ ((i = .int .i64 0 ∧ v = .slice none 0 0) ∨ (i = .int .i64 1 ∧ ∃ g c, v = .slice (some ⟨g, 0, none⟩) 1 c ∧ wr.cell? ⟨g, 0, none⟩ = some (.bool true)))) (fun _ i _ => 1 - (intOf i).toNat)
  case atStart => exact ⟨hbx, Or.inl ⟨rfl, rfl⟩⟩
  case round =>
    clear hbx
    obtain ⟨hB, hv⟩ := hrel
    rcases hv with ⟨rfl, rfl⟩ | ⟨rfl, g, c, rfl, hcg⟩
    · have d0 := hB.cell' 0 0 _ _ rfl rfl
      have d1 := hB.cell' 0 1 _ _ rfl rfl
      simp only [Nat.add_zero] at d0 d1
      have c1 : wr.cell? ⟨b, off, none⟩ = some (.int .u32 3) := (hB.below.cell (p := ⟨b, off, none⟩) (cell_lt c0)).trans c0
      go_wp2_with fail
      refine (whole_Of_neg 2 _ (by omega) (by omega)).mono ?_
      rintro e w1 ⟨a1, n1, rfl, hs1, hb1, hp1⟩
      have hB1 := hB.mono hb1
      have HN := Alg.hid (news_two (w := w1) (v1 := .bool true) (v2 := .slice a1 n1 n1) (t := 25))
      have HO : Hid (∀ u ∈ [Value.bool true, Value.slice a1 n1 n1], u.oneCell' = true) := by show ∀ u ∈ _, _; simp [Value.oneCell']
      have hsz := hB1.below.size
      go_wp2_with (at_builtin; refine wpList_append_own _ rfl _ _ 62 rfl w.heap.size 25 i0 (.agg #[.bool false, .slice none 0 0]) 2 32 Tryd.underlying62 hi hz0 hz1 hz2 rfl (by decide) _ 0 [] rfl (World.ownsRow_nil _ _ _ _) ⟨w1.heap.size, 0, none⟩ 1 1 [.bool true, .slice a1 n1 n1] rfl rfl HN.out HO.out (by decide) (by decide) (Nat.le_trans hsz (size_le_alloc _ _)) ?_; intro v' w2 hown hgrow _; go_must (have hB2 := (hB1.alloc_any (.cells #[.bool true, .slice a1 n1 n1] 25)).grown hgrow (by intro k hk; cases hk)); go_must (obtain ⟨g', cap', rfl, hcell⟩ := own_one hown))
      go_roundw
      case rel => exact ⟨hB2, Or.inr ⟨rfl, _, _, rfl, hcell 0 (by decide)⟩⟩
      case measure => simp [intOf]
    · go_wp2
      go_ret
      exact ⟨⟨_, _, rfl, hcg⟩, hB.below⟩
end Go.Proofs.YtbnjmeeaaieicaaDoor
