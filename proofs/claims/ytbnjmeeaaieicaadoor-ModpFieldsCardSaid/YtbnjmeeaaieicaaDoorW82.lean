/- The reference's guess of a quotient of naturals. -/
import Derived.Test.YtbnjmeeaaieicaaDoorW80
import Derived.Test.YtbnjmeeaaieicaaDoorB10
import Derived.BigQuiet
open Alg Go Go.RowKit
namespace Go.Proofs.YtbnjmeeaaieicaaDoor
open Go.RowKit
set_option maxRecDepth 100000 in
set_option maxHeartbeats 1600000 in
theorem ref01_guess (a : Option Addr) (n cap : Nat) (lr : List Nat) (b : Option Addr) (m cap' : Nat) (lb : List Nat) (w : World) (ha : Sl w a n cap lr) (hb : Sl w b m cap' lb)
    (ca : Canon 4294967296 lr) (cb : Canon 4294967296 lb) (hn : n ≤ 1000000) (hm1 : 1 ≤ m) (hle : valN lb ≤ valN lr) :
    Calls Tryd.prog 145 #[.slice a n cap, .slice b m cap'] w fun e w' => (∃ g k : Nat, e = .returned (.tuple #[.int .u64 (g : Int), .int .i64 (k : Int)]) ∧ Guess lr lb g k) ∧ Below w.heap.size w w' := by
  have hal := ha.len
  have hbl := hb.len
  have hca := ha.cap
  have hcb := hb.cap
  have hcca := ha.le
  have hccb := hb.le
  have hmn : m ≤ n := by
    rcases Nat.lt_or_ge n m with h | h
    · have := lt_len ha.lt cb (by omega); omega
    · exact h
  obtain ⟨M, hM⟩ : ∃ M, n = M + 1 := ⟨n - 1, by omega⟩
  obtain ⟨K, hK⟩ : ∃ K, m = K + 1 := ⟨m - 1, by omega⟩
  have e1 : (n : Int) - 1 = (M : Int) := by omega
  have e2 : (m : Int) - 1 = (K : Int) := by omega
  have w1 : IntKind.i64.wrap ((n : Int) - 1) = (M : Int) := by rw [e1]; exact IntWalk.i64_in _ (by omega)
  have w2 : IntKind.i64.wrap ((m : Int) - 1) = (K : Int) := by rw [e2]; exact IntWalk.i64_in _ (by omega)
  have hMn : M < n := by omega
  have hKm : K < m := by omega
  obtain ⟨ba, oa, rfl, ca1⟩ := ha.at (k := M) (by omega)
  have c1 := ca1 _ (Below.refl _ _)
  obtain ⟨bb, ob, rfl, cb1⟩ := hb.at (k := K) (by omega)
  have c2 := cb1 _ (Below.refl _ _)
  obtain ⟨x, hx⟩ : ∃ x, x = nth lr M := ⟨_, rfl⟩
  have hxl : x < 4294967296 := by rw [hx]; exact ha.lt M
  obtain ⟨y, hy⟩ : ∃ y, y = nth lb K := ⟨_, rfl⟩
  have hyl : y < 4294967296 := by rw [hy]; exact hb.lt K
  rw [← hx] at c1
  rw [← hy] at c2
  have m0 : IntKind.u64.wrap (x : Int) = (x : Int) := IntWalk.u64_in _ (by omega)
  have m1 : IntKind.u64.wrap (y : Int) = (y : Int) := IntWalk.u64_in _ (by omega)
  have m2 : IntKind.u64.wrap ((y : Int) + 1) = (y : Int) + 1 := IntWalk.u64_in _ (by omega)
  have HLT := Alg.hid ha.lt
  have HLB := Alg.hid hb.lt
  have HX := Alg.hid hx
  have HY := Alg.hid hy
  rw [hM] at hal
  rw [hK] at hbl
  have HAL := Alg.hid hal
  have HBL := Alg.hid hbl
  have HLE := Alg.hid hle
  clear ca1 cb1 hb hx hy hal hbl hle
  by_cases h1 : y + 1 ≤ x
  · obtain ⟨G, hG⟩ : ∃ G, G = x / (y + 1) := ⟨_, rfl⟩
    have HG : Hid (Guess lr lb G (M - K)) := by
      rw [hG, HX.out, HY.out]
      exact guess1 HAL.out HBL.out (by omega) HLB.out HLT.out (by rw [← HX.out, ← HY.out]; exact h1)
    have eG : (x : Int) / ((y : Int) + 1) = (G : Int) := by rw [hG]; push_cast; rfl
    have h1' : (x : Int) ≥ (y : Int) + 1 := by omega
    have h1'' : (y : Int) + 1 ≤ (x : Int) := by omega
    have ny : ¬ ((y : Int) + 1 = 0) := by omega
    obtain ⟨D, hD⟩ : ∃ D, D = M - K := ⟨_, rfl⟩
    rw [← hD] at HG
    have ed : (n : Int) - (m : Int) = (D : Int) := by omega
    have hGl : G ≤ x := by rw [hG]; exact Nat.div_le_self _ _
    clear hG h1 hD hM hK
    go_enter Tryd.func145, Tryd.ntmps145
    go_wp2
    go_quiet (fail)
    go_wp2
    go_ret2
    exact ⟨⟨G, D, rfl, HG.out⟩, Alg.below_drewN _ _⟩
  · have h1' : ¬ (y : Int) + 1 ≤ (x : Int) := by omega
    by_cases h2 : K < M
    · obtain ⟨J, hJ⟩ : ∃ J, M = J + 1 := ⟨M - 1, by omega⟩
      rw [hJ] at HAL HX
      have hnm : (m : Int) < (n : Int) := by omega
      obtain ⟨ba', oa', hax, ca2⟩ := ha.at (k := J) (by omega)
      simp only [Option.some.injEq, Addr.mk.injEq, and_true] at hax
      obtain ⟨rfl, rfl⟩ := hax
      have c3 := ca2 _ (Below.refl _ _)
      obtain ⟨z, hz⟩ : ∃ z, z = nth lr J := ⟨_, rfl⟩
      have hzl : z < 4294967296 := by rw [hz]; exact HLT.out J
      rw [← hz] at c3
      obtain ⟨q, hq⟩ : ∃ q, q = (x * 4294967296 + z) / (y + 1) := ⟨_, rfl⟩
      obtain ⟨G, hG⟩ : ∃ G, G = min q 4294967295 := ⟨_, rfl⟩
      have hx0 : x ≠ 0 := by
        rw [HX.out]
        rcases ca.top with h | h
        · have := HAL.out; rw [h] at this; simp at this
        · rw [HAL.out] at h; exact h
      have HG : Hid (Guess lr lb G (J - K)) := by
        refine guess2 HAL.out HBL.out (by omega) HLB.out (by rw [← HX.out]; exact hx0) ?_
        rw [hG, hq, hz, HX.out, HY.out]
      have hyx : ¬ y < x := by omega
      obtain ⟨X2, hX2⟩ : ∃ X2, X2 = x * 4294967296 + z := ⟨_, rfl⟩
      have eq' : ((x : Int) * 4294967296 + (z : Int)) / ((y : Int) + 1) = (q : Int) := by
        rw [show (x : Int) * 4294967296 + (z : Int) = (X2 : Int) by omega, show (y : Int) + 1 = ((y + 1 : Nat) : Int) by omega, hq, ← hX2]; exact (Int.natCast_ediv X2 (y + 1)).symm
      clear hX2
      have ny : ¬ ((y : Int) + 1 = 0) := by omega
      have ej : (n : Int) - 2 = (J : Int) := by omega
      have hJn : J < n := by omega
      have m3 : IntKind.u64.wrap ((x : Int) * 4294967296) = (x : Int) * 4294967296 := IntWalk.u64_in _ (by omega)
      have m4 : IntKind.u64.wrap ((x : Int) * 4294967296 + (z : Int)) = (x : Int) * 4294967296 + (z : Int) := IntWalk.u64_in _ (by omega)
      have hJK : K ≤ J := by omega
      obtain ⟨D, hD⟩ : ∃ D, D = J - K := ⟨_, rfl⟩
      rw [← hD] at HG
      have ed : (n : Int) - (m : Int) - 1 = (D : Int) := by omega
      have EN : Hid (min (q : Int) 4294967295 = (G : Int)) := by show _ = _; omega
      have hql : q < 18446744073709551616 := by rw [hq]; exact Nat.lt_of_le_of_lt (Nat.div_le_self _ _) (by omega)
      clear hq hz ca2 hD hG hM hK hJ
      go_enter Tryd.func145, Tryd.ntmps145
      go_wp2
      go_quiet (fail)
      go_wp2
      go_ret2
      exact ⟨⟨G, D, by rw [← EN.out]; rfl, HG.out⟩, Alg.below_drewN _ _⟩
    · have HG : Hid (Guess lr lb 1 0) := guess3 HLE.out
      obtain rfl : K = M := by omega
      have hnm : ¬ (m : Int) < (n : Int) := by omega
      have hmn' : (n : Int) = (m : Int) := by omega
      clear hM hK
      go_enter Tryd.func145, Tryd.ntmps145
      go_wp2
      go_quiet (fail)
      go_wp2
      go_ret2
      exact ⟨⟨1, 0, rfl, HG.out⟩, Alg.below_drewN _ _⟩
end Go.Proofs.YtbnjmeeaaieicaaDoor
