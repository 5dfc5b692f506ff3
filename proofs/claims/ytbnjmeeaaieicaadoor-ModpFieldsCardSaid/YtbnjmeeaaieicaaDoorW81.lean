/- Contracts of the reference's natural numbers: Mul, guess. -/
import Derived.Test.YtbnjmeeaaieicaaDoorW80
import Derived.Test.YtbnjmeeaaieicaaDoorB10
import Derived.BigQuiet
open Alg Go Go.RowKit
namespace Go.Proofs.YtbnjmeeaaieicaaDoor
open Go.RowKit
theorem arr_drewN {w : World} {e : TypeId} {B g n cap : Nat} {l : List Nat} (h : Arr w e B g n cap l) (k : Nat) : Arr (w.drewN k) e B g n cap l := h.mono (Alg.below_drewN w k)
set_option maxRecDepth 100000 in
set_option maxHeartbeats 1600000 in
theorem ref01_Mul (a : Option Addr) (n cap : Nat) (la : List Nat) (b : Option Addr) (m cap' : Nat) (lb : List Nat) (w : World) (ha : Sl w a n cap la) (hb : Sl w b m cap' lb) (hn : n ≤ 1000000) (hm : m ≤ 1000000) :
    Calls Tryd.prog 149 #[.slice a n cap, .slice b m cap'] w (RetTr (lim (valN la * valN lb)) w) := by
  obtain ⟨i0, hi, hz0, hz1, hz2⟩ := info_parts Tryd.infoN
  have hal := ha.len
  have hbl := hb.len
  obtain ⟨V, hV⟩ : ∃ V, V = valN la * valN lb := ⟨_, rfl⟩
  rw [← hV]
  have HV := Alg.hid hV
  obtain ⟨N, hN⟩ : ∃ N, N = n + m := ⟨_, rfl⟩
  have hN1 : (n : Int) + (m : Int) = (N : Int) := by omega
  have hNl : N ≤ 2000000 := by omega
  have hz0' : MulO la lb (List.replicate N 0) 0 := by
    rw [hN, ← hal, ← hbl]; exact MulO.start la lb
  have HNN := Alg.hid hN
  have HAL := Alg.hid hal
  have HBL := Alg.hid hbl
  have HZ := Alg.hid hz0'
  have hca := ha.cap
  have hcb := hb.cap
  have hcca := ha.le
  have hccb := hb.le
  clear hV hal hbl hN hz0'
  go_enter Tryd.func149, Tryd.ntmps149
  go_wp2_with (at_make; refine wpList_make_full _ rfl _ _ 23 rfl w.heap.size 22 i0 (.int .u32 0) 1 Tryd.underlying23 hi hz0 hz1 .i64 .i64 _ _ N rfl rfl (by simp) (by simp) (by rw [hz2]; omega) (by unfold maxLen; omega) (by simp) ?_; rw [madeCells_u32]; intro w1 hown hgr; have hA1 : Arr w1 22 w.heap.size w.heap.size N N (List.replicate N 0) := ⟨hown, zeros_lt _⟩; have hB1 := below_grown hgr; clear hown hgr hN1)
  go_loopw [6] (fun i wr => ∃ k : Nat, ∃ out : List Nat, i = .int .i64 k ∧ k ≤ n ∧ Hid (MulO la lb out k) ∧ Hid (Arr wr 22 w.heap.size w.heap.size N N out) ∧ Hid (Below w.heap.size w wr)) (fun i _ => n - (intOf i).toNat)
  case atStart => exact ⟨0, _, rfl, Nat.zero_le _, HZ, hA1, hB1⟩
  case round =>
    clear hA1 hB1 HZ
    obtain ⟨k, out, rfl, hk, hI, hA, hbw⟩ := hrel
    by_cases hkn : k < n
    · have hkn' : (k : Int) < (n : Int) := by omega
      have HR : Hid (MulI la lb out k 0 0) := hI.out.row
      clear hI
      go_wp2
      go_loopw [7, 8] (fun cc j wr => ∃ q c : Nat, ∃ out : List Nat, j = .int .i64 q ∧ cc = .int .u64 c ∧ q ≤ m ∧ c < 4294967296 ∧ Hid (MulI la lb out k q c) ∧ Hid (Arr wr 22 w.heap.size w.heap.size N N out) ∧ Hid (Below w.heap.size w wr)) (fun _ j _ => m - (intOf j).toNat)
      case atStart => exact ⟨0, 0, _, rfl, rfl, Nat.zero_le _, by omega, HR, hA, hbw⟩
      case round =>
        clear HR hA hbw
        obtain ⟨q, c, out, rfl, rfl, hq, hc, hI, hA, hbw⟩ := hrel
        have hkq : k + q < N ∨ q = m := by have := HNN.out; omega
        by_cases hqm : q < m
        · have hqm' : (q : Int) < (m : Int) := by omega
          have hkq' : k + q < N := by omega
          clear hkq
          obtain ⟨T, hT⟩ : ∃ T, T = k + q := ⟨_, rfl⟩
          have hTN : T < N := by omega
          have ekq : (k : Int) + (q : Int) = (T : Int) := by omega
          have wkq : IntKind.i64.wrap ((k : Int) + (q : Int)) = (T : Int) := by rw [ekq]; exact IntWalk.i64_in _ (by omega)
          have c3 := hA.out.cell (i := T) hTN
          have f3 := hA.out.frozen T
          have HT := Alg.hid hT
          obtain ⟨ba, oa, rfl, ca⟩ := (ha.mono hbw.out).at (k := k) hkn
          have c1 := ca _ (Below.refl _ _)
          obtain ⟨bb, ob, rfl, cb⟩ := (hb.mono hbw.out).at (k := q) hqm
          have c2 := cb _ (Below.refl _ _)
          obtain ⟨x, hx⟩ : ∃ x, x = nth la k := ⟨_, rfl⟩
          have hxl : x < 4294967296 := by rw [hx]; exact ha.lt k
          obtain ⟨y, hy⟩ : ∃ y, y = nth lb q := ⟨_, rfl⟩
          have hyl : y < 4294967296 := by rw [hy]; exact hb.lt q
          obtain ⟨z, hz⟩ : ∃ z, z = nth out T := ⟨_, rfl⟩
          have hzl : z < 4294967296 := by rw [hz]; exact hA.out.lt T
          have hb3 := limb_bound hxl hyl hzl hc
          obtain ⟨P, hP⟩ : ∃ P, P = x * y := ⟨_, rfl⟩
          have hP' : (x : Int) * (y : Int) = (P : Int) := by rw [hP]; exact (Int.natCast_mul x y).symm
          obtain ⟨s, hs⟩ : ∃ s, s = (P + z + c) % 4294967296 := ⟨_, rfl⟩
          obtain ⟨c', hc'⟩ : ∃ c', c' = (P + z + c) / 4294967296 := ⟨_, rfl⟩
          rw [← hP] at hb3
          have hsl : s < 4294967296 := by omega
          have hcl : c' < 4294967296 := by omega
          have HN : Hid (MulI la lb (out.set T s) k (q + 1) c') := by
            rw [hs, hc', hP, hx, hy, hz, hT]; exact hI.out.step (by rw [HAL.out]; exact hkn) (by rw [HBL.out]; exact hqm)
          rw [← hx] at c1
          rw [← hy] at c2
          rw [← hz] at c3
          obtain ⟨Q, hQ⟩ : ∃ Q, Q = P + z := ⟨_, rfl⟩
          obtain ⟨R, hR⟩ : ∃ R, R = Q + c := ⟨_, rfl⟩
          have m0 : IntKind.u64.wrap (x : Int) = (x : Int) := IntWalk.u64_in _ (by omega)
          have m1 : IntKind.u64.wrap (y : Int) = (y : Int) := IntWalk.u64_in _ (by omega)
          have m2 : IntKind.u64.wrap (z : Int) = (z : Int) := IntWalk.u64_in _ (by omega)
          have m3 : IntKind.u64.wrap ((x : Int) * (y : Int)) = (P : Int) := by rw [hP']; exact IntWalk.u64_in _ (by omega)
          have m4 : IntKind.u64.wrap ((P : Int) + (z : Int)) = (Q : Int) := by rw [show (P : Int) + (z : Int) = (Q : Int) by omega]; exact IntWalk.u64_in _ (by omega)
          have m5 : IntKind.u64.wrap ((Q : Int) + (c : Int)) = (R : Int) := by rw [show (Q : Int) + (c : Int) = (R : Int) by omega]; exact IntWalk.u64_in _ (by omega)
          have es : (R : Int) % 4294967296 = (s : Int) := by omega
          have ec : (R : Int) / 4294967296 = (c' : Int) := by omega
          have hRl : R < 18446744073709551616 := by omega
          clear hT hkq' hx hy hz hP hP' hs hc' hQ hR hb3 ca cb hI
          go_wp2
          go_quiet (fail)
          go_wp2
          go_roundw
          case rel => exact ⟨q + 1, c', out.set T s, by go_num, rfl, by omega, hcl, HN, (arr_drewN hA.out _).set T s hsl, (hbw.out.trans ((Alg.below_drewN _ _).mono hbw.out.size)).setCell (p := ⟨w.heap.size, T, none⟩) (Nat.le_refl _) _⟩
          case measure => simp [intOf]; omega
        · obtain rfl : q = m := by omega
          have hkm : k + q < N := by have := HNN.out; omega
          obtain ⟨T, hT⟩ : ∃ T, T = k + q := ⟨_, rfl⟩
          have hTN : T < N := by omega
          have ekq : (k : Int) + (q : Int) = (T : Int) := by omega
          have f3 := hA.out.frozen T
          have c3 := hA.out.cell (i := T) hTN
          have HN : Hid (MulO la lb (out.set T c) (k + 1)) := by
            have h1 := hI.out
            rw [hT, ← HBL.out]
            rw [← HBL.out] at h1
            exact h1.done (by rw [HAL.out]; exact hkn)
          clear hT hkm
          have mc : IntKind.u32.wrap (c : Int) = (c : Int) := IntWalk.u32_in _ (by omega)
          clear hI
          go_wp2
          go_roundw
          case rel => exact ⟨k + 1, out.set T c, by go_num, by omega, HN, hA.out.set T c hc, hbw.out.setCell (p := ⟨w.heap.size, T, none⟩) (Nat.le_refl _) _⟩
          case measure => simp [intOf]; omega
    · obtain rfl : k = n := by omega
      have HD : Hid (valN out = V) := by show _ = _; rw [HV.out]; exact hI.out.done (by rw [HAL.out]; omega)
      clear hI
      go_wp2_with fail
      refine (ref01_Trim_some ⟨w.heap.size, 0, none⟩ N N out _ (hA.out.sl (by omega)) (by omega)).mono ?_
      rw [trim_lim hA.out.lt, HD.out]
      rintro e w' ⟨a', n', c1, rfl, hs', hb', hp', hz'⟩
      go_wp2
      go_ret
      exact ⟨_, _, _, rfl, hs', hbw.out.trans (hb'.mono hbw.out.size), hp'.mono hbw.out.size, hz'⟩
end Go.Proofs.YtbnjmeeaaieicaaDoor
