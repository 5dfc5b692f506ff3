/- Contracts of nat.Cmp, nat.Add, nat.Sub. Contracts of nat.Add, nat.Sub. Contracts of nat.short, nat.Uint, nat.DivMod by one limb. -/
import Derived.Test.YtbnjmeeaaieicaaDoorB9
import Derived.Test.YtbnjmeeaaieicaaDoorA9
import Derived.Test.YtbnjmeeaaieicaaDoorW70
section
open Alg Go Go.RowKit
namespace Alg
/-- the call hands back a number, as a new slice of limbs -/
def RetN (N : Nat) (w : World) (e : Ending) (w' : World) : Prop :=
  ∃ a n, e = .returned (.slice a n n) ∧ Sl w' a n n (lim N) ∧ Below w.heap.size w w' ∧ Prov w [] a n
def RetNb (N : Nat) (w : World) (e : Ending) (w' : World) : Prop :=
  ∃ a n, e = .returned (.tuple #[.slice a n n, .bool true]) ∧ Sl w' a n n (lim N) ∧ Below w.heap.size w w' ∧ Prov w [] a n
/-- where a limb lies -/
theorem Sl.at {w : World} {a : Option Addr} {n cap : Nat} {l : List Nat} (h : Sl w a n cap l) {k : Nat} (hk : k < n) : ∃ b off, a = some ⟨b, off, none⟩ ∧ ∀ W, Below w.heap.size w W → W.cell? ⟨b, off + k, none⟩ = some (.int .u32 (nth l k : Nat)) := by
  rcases h.rd with h0 | ⟨b, off, ha, hc⟩
  · omega
  · exact ⟨b, off, ha, fun W hb => (hb.cell (p := ⟨b, off + k, none⟩) (cell_lt (hc k hk))).trans (hc k hk)⟩
theorem zeros_lt (n : Nat) : ∀ i, nth (List.replicate n 0) i < 4294967296 := fun i => by rw [← upto_zero (fun _ => 0) n, nth_upto]; split <;> decide
end Alg
namespace Go.Proofs.YtbnjmeeaaieicaaDoor
open Go.RowKit
theorem Tryd.infoN : (Tryd.prog.info? 22).map (fun i => (i.zero, i.size, i.bytes)) = some (some (.int .u32 0), 1, 4) := by kernel_rfl
theorem hid_drewW {w wr : World} {n : Nat} (h : Hid (Below w.heap.size w wr)) : Hid (Below w.heap.size w (wr.drewN n)) := h.out.trans ((Alg.below_drewN wr n).mono h.out.size)
set_option maxRecDepth 100000 in
set_option maxHeartbeats 1000000 in
theorem nat_Cmp (a : Option Addr) (n cap : Nat) (la : List Nat) (b : Option Addr) (m cap' : Nat) (lb : List Nat) (w : World) (ha : Sl w a n cap la) (hb : Sl w b m cap' lb) (ca : Canon 4294967296 la) (cb : Canon 4294967296 lb) :
    Calls Tryd.prog 123 #[.slice a n cap, .slice b m cap'] w fun e w' => e = .returned (.int .i64 (cmpN (valN la) (valN lb))) ∧ Below w.heap.size w w' := by
  have hal := ha.len
  have hbl := hb.len
  have hac := ha.cap
  have hbc := hb.cap
  have han := ha.le
  have hbn := hb.le
  obtain ⟨R, hR⟩ : ∃ R, R = cmpN (valN la) (valN lb) := ⟨_, rfl⟩
  rw [← hR]
  by_cases h1 : n < m
  · have HR : Hid (R = -1) := by rw [hR]; exact cmpN_lt (lt_len ha.lt cb (by omega))
    have g1 : ((n : Int) == (m : Int)) = false := by simp; omega
    have g2 : (n : Int) < (m : Int) := by omega
    clear hR
    go_enter Tryd.func123, Tryd.ntmps123
    go_wp2
    go_ret
    exact ⟨ret_int HR.out.symm, Below.refl _ _⟩
  by_cases h2 : m < n
  · have HR : Hid (R = 1) := by rw [hR]; exact cmpN_gt (lt_len hb.lt ca (by omega))
    have g1 : ((n : Int) == (m : Int)) = false := by simp; omega
    have g2 : ¬ (n : Int) < (m : Int) := by omega
    clear hR
    go_enter Tryd.func123, Tryd.ntmps123
    go_wp2
    go_ret
    exact ⟨ret_int HR.out.symm, Below.refl _ _⟩
  obtain rfl : n = m := by omega
  have HR := Alg.hid hR
  have HAL := Alg.hid hal
  have HBL := Alg.hid hbl
  clear hR hal hbl h1 h2
  go_enter Tryd.func123, Tryd.ntmps123
  go_wp2
  go_loopw [5] (fun i wr => ∃ k : Nat, i = .int .i64 ((k : Int) - 1) ∧ k ≤ n ∧ Hid (∀ j, k ≤ j → j < n → nth la j = nth lb j) ∧ Hid (Below w.heap.size w wr)) (fun i _ => (intOf i + 1).toNat)
  case atStart => exact ⟨n, rfl, Nat.le_refl _, fun j h1 h2 => by omega, Below.refl _ _⟩
  case round =>
    obtain ⟨k, rfl, hk, hal, hbw⟩ := hrel
    by_cases k0 : k = 0
    · subst k0
      have HZ : Hid (R = 0) := by show _ = _; rw [HR.out, all_alike HAL.out HBL.out hal.out]; exact cmpN_eq _
      go_wp2
      go_ret
      exact ⟨ret_int HZ.out.symm, hbw.out⟩
    · obtain ⟨j, rfl⟩ : ∃ j, k = j + 1 := ⟨k - 1, by omega⟩
      have ej : ((j + 1 : Nat) : Int) - 1 = (j : Int) := by omega
      obtain ⟨g, off, rfl, hca⟩ := ha.at (k := j) (by omega)
      obtain ⟨g', off', rfl, hcb⟩ := hb.at (k := j) (by omega)
      obtain ⟨x, hx⟩ : ∃ x, x = nth la j := ⟨_, rfl⟩
      obtain ⟨y, hy⟩ : ∃ y, y = nth lb j := ⟨_, rfl⟩
      rw [← hx] at hca
      rw [← hy] at hcb
      have HCA := Alg.hid hca
      have HCB := Alg.hid hcb
      have c1 := hca _ hbw.out
      have c2 := hcb _ hbw.out
      have hjn : (j : Int) < (n : Int) := by omega
      have hxl : x < 4294967296 := by rw [hx]; exact ha.lt j
      have hyl : y < 4294967296 := by rw [hy]; exact hb.lt j
      clear hca hcb
      by_cases h1 : x < y
      · have HZ : Hid (R = -1) := by
          show _ = _
          rw [HR.out]; exact cmpN_lt (lt_at HAL.out HBL.out ha.lt hal.out (by rw [← hx, ← hy]; exact h1))
        have h1' : (x : Int) < (y : Int) := by omega
        clear hx hy h1
        rw [ej]
        go_wp2
        go_quiet (fail)
        go_wp2
        go_ret
        exact ⟨ret_int HZ.out.symm, by first | exact hbw.out | exact (hid_drewW hbw).out⟩
      · have h1' : ¬ (x : Int) < (y : Int) := by omega
        by_cases h2 : y < x
        · have HZ : Hid (R = 1) := by
            show _ = _
            rw [HR.out]; exact cmpN_gt (lt_at HBL.out HAL.out hb.lt (fun j h1 h2 => (hal.out j h1 h2).symm) (by rw [← hx, ← hy]; exact h2))
          have h2' : (y : Int) < (x : Int) := by omega
          clear hx hy h1 h2
          rw [ej]
          go_wp2
          go_quiet (fail)
          have c1' := HCA.out _ (hid_drewW (n := nq) hbw).out
          have c2' := HCB.out _ (hid_drewW (n := nq) hbw).out
          go_wp2
          go_quiet (fail)
          go_wp2
          go_ret
          exact ⟨ret_int HZ.out.symm, by first | exact hbw.out | exact (hid_drewW hbw).out | exact (hid_drewW (hid_drewW hbw)).out⟩
        · have h2' : ¬ (y : Int) < (x : Int) := by omega
          have HN : Hid (∀ i, j ≤ i → i < n → nth la i = nth lb i) := fun i h3 h4 => by
            by_cases e : i = j
            · subst e; rw [← hx, ← hy]; omega
            · exact hal.out i (by omega) h4
          clear hx hy h1 h2 hal
          rw [ej]
          go_wp2
          go_quiet (fail)
          have c1' := HCA.out _ (hid_drewW (n := nq) hbw).out
          have c2' := HCB.out _ (hid_drewW (n := nq) hbw).out
          go_wp2
          go_quiet (fail)
          go_wp2
          go_roundw
          case rel => exact ⟨j, rfl, by omega, HN, by first | exact hbw | exact hid_drewW hbw | exact hid_drewW (hid_drewW hbw)⟩
          case measure => simp [intOf]
end Go.Proofs.YtbnjmeeaaieicaaDoor
end
section
open Alg Go Go.RowKit
namespace Go.Proofs.YtbnjmeeaaieicaaDoor
open Go.RowKit
set_option maxRecDepth 100000 in
set_option maxHeartbeats 1000000 in
theorem nat_Add (a : Option Addr) (n cap : Nat) (la : List Nat) (b : Option Addr) (m cap' : Nat) (lb : List Nat) (w : World) (ha : Sl w a n cap la) (hb : Sl w b m cap' lb) (hn : n ≤ 1000000000) (hm : m ≤ 1000000000) :
    Calls Tryd.prog 110 #[.slice a n cap, .slice b m cap'] w (RetN (valN la + valN lb) w) := by
  obtain ⟨i0, hi, hz0, hz1, hz2⟩ := info_parts Tryd.infoN
  have hal := ha.len
  have hbl := hb.len
  have hac := ha.cap
  have hbc := hb.cap
  have han := ha.le
  have hbn := hb.le
  obtain ⟨V, hV⟩ : ∃ V, V = valN la + valN lb := ⟨_, rfl⟩
  rw [← hV]
  have HV := Alg.hid hV
  clear hV
  by_cases hsw : n < m
  · have hsw' : (n : Int) < (m : Int) := by omega
    have HAL := Alg.hid hbl
    have HBL := Alg.hid hal
    have HVV : Hid (V = valN lb + valN la) := by show _ = _; rw [HV.out, Nat.add_comm]
    clear hal hbl
    go_enter Tryd.func110, Tryd.ntmps110
    go_wp2_with (at_make; refine wpList_make_full _ rfl _ _ 23 rfl w.heap.size 22 i0 (.int .u32 0) 1 Tryd.underlying23 hi hz0 hz1 .i64 .i64 _ _ (m + 1) rfl rfl (by simp) (by simp) (by rw [hz2]; omega) (by unfold maxLen; omega) (by simp) ?_; rw [madeCells_u32]; intro w1 hown hgr; have hA1 : Arr w1 22 w.heap.size w.heap.size (m + 1) (m + 1) (List.replicate (m + 1) 0) := ⟨hown, zeros_lt _⟩; have hB1 := below_grown hgr; clear hown hgr)
    go_loopw [6, 22] (fun cc i wr => ∃ k c : Nat, ∃ out : List Nat, i = .int .i64 k ∧ cc = .int .u32 c ∧ k ≤ m ∧ c ≤ 1 ∧ Hid (AddI lb la out k c) ∧ Hid (Arr wr 22 w.heap.size w.heap.size (m + 1) (m + 1) out) ∧ Hid (Below w.heap.size w wr)) (fun _ i _ => m - (intOf i).toNat)
    case atStart => exact ⟨0, 0, _, rfl, rfl, Nat.zero_le _, by omega, AddI.start _ _ _, hA1, hB1⟩
    case round =>
      clear hA1 hB1
      obtain ⟨k, c, out, rfl, rfl, hk, hc, hI, hA, hbw⟩ := hrel
      have hlen := hA.out.len
      have HLEN := Alg.hid hlen
      clear hlen
      by_cases hkn : k < m
      · have hkn' : (k : Int) < (m : Int) := by omega
        obtain ⟨g, off, rfl, hca⟩ := hb.at hkn
        have c1 := hca _ hbw.out
        have c2 := hA.out.cell (i := k) (by omega)
        have f2 := hA.out.frozen k
        obtain ⟨x, hx⟩ : ∃ x, x = nth lb k := ⟨_, rfl⟩
        have hxl : x < 4294967296 := by rw [hx]; exact hb.lt k
        rw [← hx] at c1
        obtain ⟨y, hy⟩ : ∃ y, y = nth la k := ⟨_, rfl⟩
        have hyl : y < 4294967296 := by rw [hy]; exact ha.lt k
        obtain ⟨s, hs⟩ : ∃ s, s = (x + y + c) % 4294967296 := ⟨_, rfl⟩
        obtain ⟨c', hc'⟩ : ∃ c', c' = (x + y + c) / 4294967296 := ⟨_, rfl⟩
        have hsl : s < 4294967296 := by omega
        have hcl : c' ≤ 1 := by omega
        have HN : Hid (AddI lb la (out.set k s) (k + 1) c') := by
          rw [hs, hc', hx, hy]; exact hI.out.step (by rw [HLEN.out]; omega)
        have HS := Alg.hid hs
        have HC := Alg.hid hc'
        have HY := Alg.hid hy
        clear hca hx hs hc' hI hy
        by_cases hkm : k < n
        · have hkm' : (k : Int) < (n : Int) := by omega
          obtain ⟨g', off', rfl, hcb⟩ := ha.at hkm
          have c3 := hcb _ hbw.out
          rw [← HY.out] at c3
          clear hcb
          go_wp2_with fail
          refine (bits_Add32 x y c s c' _ hxl hyl hc HS.out HC.out).mono ?_
          rintro e w' ⟨rfl, rfl⟩
          go_wp2
          go_roundw
          case rel => exact ⟨k + 1, c', out.set k s, by go_num, rfl, by omega, hcl, HN, hA.out.set k s hsl, hbw.out.setCell (p := ⟨w.heap.size, k, none⟩) (Nat.le_refl _) _⟩
          case measure => simp [intOf]; omega
        · have hkm' : ¬ (k : Int) < (n : Int) := by omega
          have hy0 : y = 0 := by rw [HY.out]; exact Sl.nth_ge ha (by omega)
          subst hy0
          go_wp2_with fail
          refine (bits_Add32 x 0 c s c' _ hxl hyl hc HS.out HC.out).mono ?_
          rintro e w' ⟨rfl, rfl⟩
          go_wp2
          go_roundw
          case rel => exact ⟨k + 1, c', out.set k s, by go_num, rfl, by omega, hcl, HN, hA.out.set k s hsl, hbw.out.setCell (p := ⟨w.heap.size, k, none⟩) (Nat.le_refl _) _⟩
          case measure => simp [intOf]; omega
      · obtain rfl : k = m := by omega
        have c2 := hA.out.cell (i := k) (by omega)
        have f2 := hA.out.frozen k
        have HD : Hid (valN (out.set k c) = V) := by show _ = _; rw [HVV.out]; exact hI.out.done (by rw [HAL.out]; omega) (by rw [HBL.out]; omega) HLEN.out
        have HA2 := Alg.hid (hA.out.set k c (by omega))
        have HB2 : Hid (Below w.heap.size w (wr.setCell ⟨w.heap.size, k, none⟩ (.int .u32 (c : Nat)))) := hbw.out.setCell (p := ⟨w.heap.size, k, none⟩) (Nat.le_refl _) _
        clear hI
        go_wp2_with fail
        refine (nat_trim _ (k + 1) (k + 1) _ _ (HA2.out.sl (by omega))).mono ?_
        rintro e w' ⟨⟨n', rfl, hs'⟩, rfl⟩
        go_wp2
        go_ret
        have hl := trim_lim HA2.out.lt
        rw [HD.out] at hl
        rw [hl] at hs'
        exact ⟨_, n', rfl, hs', HB2.out, Or.inr (Or.inr ⟨_, _, _, rfl, Nat.le_refl _⟩)⟩
  · have hsw' : ¬ (n : Int) < (m : Int) := by omega
    have HAL := Alg.hid hal
    have HBL := Alg.hid hbl
    have HVV : Hid (V = valN la + valN lb) := HV.out
    clear hal hbl
    go_enter Tryd.func110, Tryd.ntmps110
    go_wp2_with (at_make; refine wpList_make_full _ rfl _ _ 23 rfl w.heap.size 22 i0 (.int .u32 0) 1 Tryd.underlying23 hi hz0 hz1 .i64 .i64 _ _ (n + 1) rfl rfl (by simp) (by simp) (by rw [hz2]; omega) (by unfold maxLen; omega) (by simp) ?_; rw [madeCells_u32]; intro w1 hown hgr; have hA1 : Arr w1 22 w.heap.size w.heap.size (n + 1) (n + 1) (List.replicate (n + 1) 0) := ⟨hown, zeros_lt _⟩; have hB1 := below_grown hgr; clear hown hgr)
    go_loopw [6, 22] (fun cc i wr => ∃ k c : Nat, ∃ out : List Nat, i = .int .i64 k ∧ cc = .int .u32 c ∧ k ≤ n ∧ c ≤ 1 ∧ Hid (AddI la lb out k c) ∧ Hid (Arr wr 22 w.heap.size w.heap.size (n + 1) (n + 1) out) ∧ Hid (Below w.heap.size w wr)) (fun _ i _ => n - (intOf i).toNat)
    case atStart => exact ⟨0, 0, _, rfl, rfl, Nat.zero_le _, by omega, AddI.start _ _ _, hA1, hB1⟩
    case round =>
      clear hA1 hB1
      obtain ⟨k, c, out, rfl, rfl, hk, hc, hI, hA, hbw⟩ := hrel
      have hlen := hA.out.len
      have HLEN := Alg.hid hlen
      clear hlen
      by_cases hkn : k < n
      · have hkn' : (k : Int) < (n : Int) := by omega
        obtain ⟨g, off, rfl, hca⟩ := ha.at hkn
        have c1 := hca _ hbw.out
        have c2 := hA.out.cell (i := k) (by omega)
        have f2 := hA.out.frozen k
        obtain ⟨x, hx⟩ : ∃ x, x = nth la k := ⟨_, rfl⟩
        have hxl : x < 4294967296 := by rw [hx]; exact ha.lt k
        rw [← hx] at c1
        obtain ⟨y, hy⟩ : ∃ y, y = nth lb k := ⟨_, rfl⟩
        have hyl : y < 4294967296 := by rw [hy]; exact hb.lt k
        obtain ⟨s, hs⟩ : ∃ s, s = (x + y + c) % 4294967296 := ⟨_, rfl⟩
        obtain ⟨c', hc'⟩ : ∃ c', c' = (x + y + c) / 4294967296 := ⟨_, rfl⟩
        have hsl : s < 4294967296 := by omega
        have hcl : c' ≤ 1 := by omega
        have HN : Hid (AddI la lb (out.set k s) (k + 1) c') := by
          rw [hs, hc', hx, hy]; exact hI.out.step (by rw [HLEN.out]; omega)
        have HS := Alg.hid hs
        have HC := Alg.hid hc'
        have HY := Alg.hid hy
        clear hca hx hs hc' hI hy
        by_cases hkm : k < m
        · have hkm' : (k : Int) < (m : Int) := by omega
          obtain ⟨g', off', rfl, hcb⟩ := hb.at hkm
          have c3 := hcb _ hbw.out
          rw [← HY.out] at c3
          clear hcb
          go_wp2_with fail
          refine (bits_Add32 x y c s c' _ hxl hyl hc HS.out HC.out).mono ?_
          rintro e w' ⟨rfl, rfl⟩
          go_wp2
          go_roundw
          case rel => exact ⟨k + 1, c', out.set k s, by go_num, rfl, by omega, hcl, HN, hA.out.set k s hsl, hbw.out.setCell (p := ⟨w.heap.size, k, none⟩) (Nat.le_refl _) _⟩
          case measure => simp [intOf]; omega
        · have hkm' : ¬ (k : Int) < (m : Int) := by omega
          have hy0 : y = 0 := by rw [HY.out]; exact Sl.nth_ge hb (by omega)
          subst hy0
          go_wp2_with fail
          refine (bits_Add32 x 0 c s c' _ hxl hyl hc HS.out HC.out).mono ?_
          rintro e w' ⟨rfl, rfl⟩
          go_wp2
          go_roundw
          case rel => exact ⟨k + 1, c', out.set k s, by go_num, rfl, by omega, hcl, HN, hA.out.set k s hsl, hbw.out.setCell (p := ⟨w.heap.size, k, none⟩) (Nat.le_refl _) _⟩
          case measure => simp [intOf]; omega
      · obtain rfl : k = n := by omega
        have c2 := hA.out.cell (i := k) (by omega)
        have f2 := hA.out.frozen k
        have HD : Hid (valN (out.set k c) = V) := by show _ = _; rw [HVV.out]; exact hI.out.done (by rw [HAL.out]; omega) (by rw [HBL.out]; omega) HLEN.out
        have HA2 := Alg.hid (hA.out.set k c (by omega))
        have HB2 : Hid (Below w.heap.size w (wr.setCell ⟨w.heap.size, k, none⟩ (.int .u32 (c : Nat)))) := hbw.out.setCell (p := ⟨w.heap.size, k, none⟩) (Nat.le_refl _) _
        clear hI
        go_wp2_with fail
        refine (nat_trim _ (k + 1) (k + 1) _ _ (HA2.out.sl (by omega))).mono ?_
        rintro e w' ⟨⟨n', rfl, hs'⟩, rfl⟩
        go_wp2
        go_ret
        have hl := trim_lim HA2.out.lt
        rw [HD.out] at hl
        rw [hl] at hs'
        exact ⟨_, n', rfl, hs', HB2.out, Or.inr (Or.inr ⟨_, _, _, rfl, Nat.le_refl _⟩)⟩
set_option maxRecDepth 100000 in
set_option maxHeartbeats 1000000 in
theorem nat_Sub (a : Option Addr) (n cap : Nat) (la : List Nat) (b : Option Addr) (m cap' : Nat) (lb : List Nat) (w : World) (ha : Sl w a n cap la) (hb : Sl w b m cap' lb) (hn : n ≤ 1000000000)
    (ca : Canon 4294967296 la) (cb : Canon 4294967296 lb) (hle : valN lb ≤ valN la) :
    Calls Tryd.prog 109 #[.slice a n cap, .slice b m cap'] w (RetNb (valN la - valN lb) w) := by
  obtain ⟨i0, hi, hz0, hz1, hz2⟩ := info_parts Tryd.infoN
  have hal := ha.len
  have hbl := hb.len
  have hac := ha.cap
  have hbc := hb.cap
  have han := ha.le
  have hbn := hb.le
  obtain ⟨V, hV⟩ : ∃ V, V = valN la - valN lb := ⟨_, rfl⟩
  rw [← hV]
  have HV := Alg.hid hV
  have hmn : m ≤ n := by
    rcases Nat.lt_or_ge n m with h | h
    · have := lt_len ha.lt cb (by omega); omega
    · exact h
  obtain ⟨R, hR⟩ : ∃ R, R = cmpN (valN la) (valN lb) := ⟨_, rfl⟩
  have hR0 : ¬ R < 0 := by
    rw [hR]; unfold cmpN; rw [if_neg (by omega)]; split <;> omega
  have HR := Alg.hid hR
  have HAL := Alg.hid hal
  have HBL := Alg.hid hbl
  have HLE := Alg.hid hle
  clear hal hbl hle hV hR
  go_enter Tryd.func109, Tryd.ntmps109
  go_wp2_with fail
  refine (nat_Cmp a n cap la b m cap' lb _ ha hb ca cb).mono ?_
  rw [← HR.out]
  rintro e w0 ⟨rfl, hb0⟩
  have ha0 := ha.mono hb0
  have hb00 := hb.mono hb0
  clear ha hb
  have s0 := hb0.size
  go_wp2_with (at_make; refine wpList_make_full _ rfl _ _ 23 rfl w0.heap.size 22 i0 (.int .u32 0) 1 Tryd.underlying23 hi hz0 hz1 .i64 .i64 _ _ n rfl rfl (by simp) (by simp) (by rw [hz2]; omega) (by unfold maxLen; omega) (by simp) ?_; rw [madeCells_u32]; intro w1 hown hgr; have hA1 : Arr w1 22 w0.heap.size w0.heap.size n n (List.replicate n 0) := ⟨hown, zeros_lt _⟩; have hB1 := below_grown hgr; clear hown hgr)
  go_loopw [7, 19] (fun cc i wr => ∃ k c : Nat, ∃ out : List Nat, i = .int .i64 k ∧ cc = .int .u32 c ∧ k ≤ n ∧ c ≤ 1 ∧ Hid (SubI la lb out k c) ∧ Hid (Arr wr 22 w0.heap.size w0.heap.size n n out) ∧ Hid (Below w0.heap.size w0 wr)) (fun _ i _ => n - (intOf i).toNat)
  case atStart => exact ⟨0, 0, _, rfl, rfl, Nat.zero_le _, by omega, SubI.start _ _ _, hA1, hB1⟩
  case round =>
    clear hA1 hB1
    obtain ⟨k, c, out, rfl, rfl, hk, hc, hI, hA, hbw⟩ := hrel
    have hlen := hA.out.len
    have HLEN := Alg.hid hlen
    clear hlen
    by_cases hkn : k < n
    · have hkn' : (k : Int) < (n : Int) := by omega
      obtain ⟨g, off, rfl, hca⟩ := ha0.at hkn
      have c1 := hca _ hbw.out
      have c2 := hA.out.cell (i := k) (by omega)
      have f2 := hA.out.frozen k
      obtain ⟨x, hx⟩ : ∃ x, x = nth la k := ⟨_, rfl⟩
      have hxl : x < 4294967296 := by rw [hx]; exact ha0.lt k
      rw [← hx] at c1
      obtain ⟨y, hy⟩ : ∃ y, y = nth lb k := ⟨_, rfl⟩
      have hyl : y < 4294967296 := by rw [hy]; exact hb00.lt k
      obtain ⟨s, hs⟩ : ∃ s, s = (x + 4294967296 - y - c) % 4294967296 := ⟨_, rfl⟩
      obtain ⟨c', hc'⟩ : ∃ c', c' = if x < y + c then 1 else 0 := ⟨_, rfl⟩
      obtain ⟨heq, hsl, hcl⟩ := sub_limb hxl hyl hc hs hc'
      have HN : Hid (SubI la lb (out.set k s) (k + 1) c') := hI.out.step (by rw [HLEN.out]; omega) (by rw [← hx, ← hy]; exact heq)
      have HS := Alg.hid hs
      have HC := Alg.hid hc'
      have HY := Alg.hid hy
      clear hca hx hs hc' hI hy heq
      by_cases hkm : k < m
      · have hkm' : (k : Int) < (m : Int) := by omega
        obtain ⟨g', off', rfl, hcb⟩ := hb00.at hkm
        have c3 := hcb _ hbw.out
        rw [← HY.out] at c3
        clear hcb
        go_wp2_with fail
        refine (bits_Sub32 x y c s c' _ hxl hyl hc HS.out HC.out).mono ?_
        rintro e w' ⟨rfl, rfl⟩
        go_wp2
        go_roundw
        case rel => exact ⟨k + 1, c', out.set k s, by go_num, rfl, by omega, hcl, HN, hA.out.set k s hsl, hbw.out.setCell (p := ⟨w0.heap.size, k, none⟩) (Nat.le_refl _) _⟩
        case measure => simp [intOf]; omega
      · have hkm' : ¬ (k : Int) < (m : Int) := by omega
        have hy0 : y = 0 := by rw [HY.out]; exact Sl.nth_ge hb00 (by omega)
        subst hy0
        go_wp2_with fail
        refine (bits_Sub32 x 0 c s c' _ hxl hyl hc HS.out HC.out).mono ?_
        rintro e w' ⟨rfl, rfl⟩
        go_wp2
        go_roundw
        case rel => exact ⟨k + 1, c', out.set k s, by go_num, rfl, by omega, hcl, HN, hA.out.set k s hsl, hbw.out.setCell (p := ⟨w0.heap.size, k, none⟩) (Nat.le_refl _) _⟩
        case measure => simp [intOf]; omega
    · obtain rfl : k = n := by omega
      have HD : Hid (valN out = V) := by show _ = _; rw [HV.out]; exact hI.out.done (by rw [HAL.out]; omega) (by rw [HBL.out]; omega) HLEN.out hA.out.lt HLE.out
      clear hI
      go_wp2_with fail
      refine (nat_trim _ k k _ _ (hA.out.sl (by omega))).mono ?_
      rintro e w' ⟨⟨n', rfl, hs'⟩, rfl⟩
      go_wp2
      go_ret2
      have hl := trim_lim hA.out.lt
      rw [HD.out] at hl
      rw [hl] at hs'
      exact ⟨_, n', rfl, hs', hb0.trans (hbw.out.mono s0), Or.inr (Or.inr ⟨_, _, _, rfl, s0⟩)⟩
end Go.Proofs.YtbnjmeeaaieicaaDoor
end
section
open Alg Go Go.RowKit
namespace Alg
/-- a quotient and what is left -/
def RetDM (Q R : Nat) (w : World) (e : Ending) (w' : World) : Prop :=
  ∃ a n cap b m cap', e = .returned (.tuple #[.slice a n cap, .slice b m cap', .bool true]) ∧ Sl w' a n cap (lim Q) ∧ Sl w' b m cap' (lim R) ∧ Below w.heap.size w w' ∧ Prov w [] a n ∧ Prov w [] b m
def RetSh (Q R : Nat) (w : World) (e : Ending) (w' : World) : Prop :=
  ∃ a n, e = .returned (.tuple #[.slice a n n, .int .u32 (R : Nat)]) ∧ Sl w' a n n (lim Q) ∧ Below w.heap.size w w' ∧ Prov w [] a n
theorem valN_two {l : List Nat} (h : l.length = 2) : valN l = nth l 1 * 4294967296 + nth l 0 := by
  match l, h with
  | [x, y], _ => show x + 4294967296 * (y + 4294967296 * 0) = y * 4294967296 + x; omega
theorem valN_one1 {l : List Nat} (h : l.length = 1) : valN l = nth l 0 := by
  match l, h with
  | [x], _ => show x + 4294967296 * 0 = x; omega
end Alg
namespace Go.Proofs.YtbnjmeeaaieicaaDoor
open Go.RowKit
set_option maxRecDepth 100000 in
set_option maxHeartbeats 1000000 in
theorem nat_short (a : Option Addr) (n cap : Nat) (la : List Nat) (d : Nat) (w : World) (ha : Sl w a n cap la) (hn : n ≤ 1000000000) (hd0 : 0 < d) (hd : d < 4294967296) :
    Calls Tryd.prog 124 #[.slice a n cap, .int .u32 d] w (RetSh (valN la / d) (valN la % d) w) := by
  obtain ⟨i0, hi, hz0, hz1, hz2⟩ := info_parts Tryd.infoN
  have hal := ha.len
  have hac := ha.cap
  have han := ha.le
  obtain ⟨Q, hQ⟩ : ∃ Q, Q = valN la / d := ⟨_, rfl⟩
  obtain ⟨R, hR⟩ : ∃ R, R = valN la % d := ⟨_, rfl⟩
  rw [← hQ, ← hR]
  have HQ := Alg.hid hQ
  have HR := Alg.hid hR
  have HAL := Alg.hid hal
  clear hQ hR hal
  go_enter Tryd.func124, Tryd.ntmps124
  go_wp2_with (at_make; refine wpList_make_full _ rfl _ _ 23 rfl w.heap.size 22 i0 (.int .u32 0) 1 Tryd.underlying23 hi hz0 hz1 .i64 .i64 _ _ n rfl rfl (by simp) (by simp) (by rw [hz2]; omega) (by unfold maxLen; omega) (by simp) ?_; rw [madeCells_u32]; intro w1 hown hgr; have hA1 : Arr w1 22 w.heap.size w.heap.size n n (List.replicate n 0) := ⟨hown, zeros_lt _⟩; have hB1 := below_grown hgr; clear hown hgr)
  go_loopw [7, 8] (fun rr i wr => ∃ k r : Nat, ∃ out : List Nat, i = .int .i64 ((k : Int) - 1) ∧ rr = .int .u32 r ∧ k ≤ n ∧ r < d ∧ Hid (DivI la out d k r) ∧ Hid (Arr wr 22 w.heap.size w.heap.size n n out) ∧ Hid (Below w.heap.size w wr)) (fun _ i _ => (intOf i + 1).toNat)
  case atStart => exact ⟨n, 0, _, rfl, rfl, Nat.le_refl _, hd0, DivI.start hd0 (by rw [HAL.out]; exact Nat.le_refl _) (by simp), hA1, hB1⟩
  case round =>
    clear hA1 hB1
    obtain ⟨k, r, out, rfl, rfl, hk, hr, hI, hA, hbw⟩ := hrel
    have hlen := hA.out.len
    have HLEN := Alg.hid hlen
    clear hlen
    by_cases k0 : k = 0
    · subst k0
      obtain ⟨hv1, hv2⟩ := hI.out.done
      have HV1 := Alg.hid hv1
      have HV2 := Alg.hid hv2
      clear hI hv1 hv2
      go_wp2_with fail
      refine (nat_trim _ n n _ _ (hA.out.sl (by omega))).mono ?_
      rintro e w' ⟨⟨n', rfl, hs'⟩, rfl⟩
      go_wp2
      go_ret2
      have hl := trim_lim hA.out.lt
      rw [HV1.out, ← HQ.out] at hl
      rw [hl] at hs'
      exact ⟨_, n', by rw [HR.out, ← HV2.out]; rfl, hs', hbw.out, Or.inr (Or.inr ⟨_, _, _, rfl, Nat.le_refl _⟩)⟩
    · obtain ⟨j, rfl⟩ : ∃ j, k = j + 1 := ⟨k - 1, by omega⟩
      have ej : ((j + 1 : Nat) : Int) - 1 = (j : Int) := by omega
      have hjn : (j : Int) < (n : Int) := by omega
      obtain ⟨g, off, rfl, hca⟩ := ha.at (k := j) (by omega)
      have c1 := hca _ hbw.out
      obtain ⟨x, hx⟩ : ∃ x, x = nth la j := ⟨_, rfl⟩
      have hxl : x < 4294967296 := by rw [hx]; exact ha.lt j
      rw [← hx] at c1
      obtain ⟨q, hq⟩ : ∃ q, q = (r * 4294967296 + x) / d := ⟨_, rfl⟩
      obtain ⟨r', hr'⟩ : ∃ r', r' = (r * 4294967296 + x) % d := ⟨_, rfl⟩
      have hrl : r' < d := by rw [hr']; exact Nat.mod_lt _ hd0
      have hql : q < 4294967296 := by
        rw [hq]
        refine (Nat.div_lt_iff_lt_mul hd0).2 ?_
        have := Nat.mul_le_mul_right 4294967296 hr
        rw [Nat.succ_mul] at this
        rw [Nat.mul_comm 4294967296 d]
        omega
      have HN : Hid (DivI la (out.set j q) d j r') := by
        have := hI.out.step (by rw [HLEN.out]; omega)
        rw [← hx, ← hq, ← hr'] at this
        exact this
      have HQ1 := Alg.hid hq
      have HR1 := Alg.hid hr'
      clear hca hx hq hr' hI
      rw [ej]
      go_wp2_with fail
      refine (bits_Div32 r x d q r' _ hxl hr hd HQ1.out HR1.out).mono ?_
      rintro e w2 ⟨rfl, hb2⟩
      have hA2 := Alg.hid (hA.out.mono hb2)
      have hbw2 := Alg.hid (hbw.out.trans (hb2.mono hbw.out.size))
      have c2 := hA2.out.cell (i := j) (by omega)
      have f2 := hA2.out.frozen j
      clear c1 hb2 hA hbw
      go_wp2
      go_roundw
      case rel => exact ⟨j, r', out.set j q, rfl, rfl, by omega, hrl, HN, hA2.out.set j q hql, hbw2.out.setCell (p := ⟨w.heap.size, j, none⟩) (Nat.le_refl _) _⟩
      case measure => simp [intOf]
theorem nat_Uint (a : Option Addr) (n cap : Nat) (la : List Nat) (w : World) (ha : Sl w a n cap la) (hn : n ≤ 2) :
    Calls Tryd.prog 112 #[.slice a n cap] w fun e w' => e = .returned (.tuple #[.int .u64 (valN la : Nat), .bool true]) ∧ Below w.heap.size w w' := by
  have hal := ha.len
  have hac := ha.cap
  have han := ha.le
  obtain ⟨V, hV⟩ : ∃ V, V = valN la := ⟨_, rfl⟩
  rw [← hV]
  by_cases h0 : n = 0
  · have : la = [] := List.length_eq_zero_iff.1 (by omega)
    subst this
    have HV : Hid (V = 0) := hV
    subst h0
    clear hV hal
    go_enter Tryd.func112, Tryd.ntmps112
    go_wp2
    go_ret2
    exact ⟨by rw [HV.out]; rfl, Below.refl _ _⟩
  by_cases h1 : n = 1
  · have HV : Hid (V = nth la 0) := by show _ = _; rw [hV]; exact valN_one1 (by omega)
    subst h1
    obtain ⟨g, off, rfl, hca⟩ := ha.at (k := 0) (by omega)
    have c1 := hca _ (Below.refl _ _)
    rw [← HV.out] at c1
    rw [Nat.add_zero] at c1
    have hvl : V < 4294967296 := by rw [HV.out]; exact ha.lt 0
    clear hV hal hca
    go_enter Tryd.func112, Tryd.ntmps112
    go_wp2
    go_ret2
    exact ⟨rfl, Below.refl _ _⟩
  · obtain rfl : n = 2 := by omega
    obtain ⟨g, off, rfl, hca⟩ := ha.at (k := 0) (by omega)
    obtain ⟨g', off', hgg, hcb⟩ := ha.at (k := 1) (by omega)
    simp only [Option.some.injEq, Addr.mk.injEq, and_true] at hgg
    obtain ⟨rfl, rfl⟩ := hgg
    obtain ⟨x, hx⟩ : ∃ x, x = nth la 0 := ⟨_, rfl⟩
    obtain ⟨y, hy⟩ : ∃ y, y = nth la 1 := ⟨_, rfl⟩
    have hxl : x < 4294967296 := by rw [hx]; exact ha.lt 0
    have hyl : y < 4294967296 := by rw [hy]; exact ha.lt 1
    have c1 := hca _ (Below.refl _ _)
    have c2 := hcb _ (Below.refl _ _)
    rw [← hx, Nat.add_zero] at c1
    rw [← hy] at c2
    have g2 := or_hi y x hyl hxl
    have hvv : y * 4294967296 + x = V := by rw [hV, valN_two hal, hx, hy]
    rw [hvv] at g2
    have hvl : V < 18446744073709551616 := by omega
    clear hV hal hca hcb hx hy hvv
    go_enter Tryd.func112, Tryd.ntmps112
    go_wp2
    go_quiet (fail)
    go_wp2
    go_ret2
    exact ⟨rfl, Alg.below_drewN _ _⟩
set_option maxRecDepth 100000 in
set_option maxHeartbeats 1000000 in
theorem nat_DivMod1 (a : Option Addr) (n cap : Nat) (la : List Nat) (b : Option Addr) (cap' : Nat) (lb : List Nat) (d : Nat) (w : World) (ha : Sl w a n cap la) (hb : Sl w b 1 cap' lb) (hn : n ≤ 1000000000) (ca : Canon 4294967296 la) (hlb : lb = [d]) (hd0 : 0 < d) (hd : d < 4294967296) :
    Calls Tryd.prog 107 #[.slice a n cap, .slice b 1 cap'] w (RetDM (valN la / d) (valN la % d) w) := by
  subst hlb
  have cb : Canon 4294967296 [d] := ⟨fun c hc => by rw [List.mem_singleton.1 hc]; exact hd, Or.inr (by show d ≠ 0; omega)⟩
  have hac := ha.cap
  have han := ha.le
  have hbc := hb.cap
  have hbn := hb.le
  obtain ⟨Q, hQ⟩ : ∃ Q, Q = valN la / d := ⟨_, rfl⟩
  obtain ⟨R, hR⟩ : ∃ R, R = valN la % d := ⟨_, rfl⟩
  obtain ⟨S, hS⟩ : ∃ S, S = cmpN (valN la) (valN [d]) := ⟨_, rfl⟩
  have hvd : valN [d] = d := by show d + 4294967296 * 0 = d; omega
  rw [hvd] at hS
  rw [← hQ, ← hR]
  have HVD := Alg.hid hvd
  have HQ := Alg.hid hQ
  have HR := Alg.hid hR
  have HS := Alg.hid hS
  by_cases hlt : valN la < d
  · have hs0 : S < 0 := by rw [hS, cmpN_lt hlt]; omega
    have HQ0 : Hid (Q = 0) := by show _ = _; rw [hQ]; exact Nat.div_eq_of_lt hlt
    have HR0 : Hid (lim R = la) := by show _ = _; rw [hR, Nat.mod_eq_of_lt hlt]; exact lim_valN ca
    clear hQ hR hS hvd hlt
    go_enter Tryd.func107, Tryd.ntmps107
    go_wp2_with fail
    refine (nat_Cmp a n cap la b 1 cap' [d] _ ha hb ca cb).mono ?_
    rw [HVD.out, ← HS.out]
    rintro e w1 ⟨rfl, hb1⟩
    go_wp2_with fail
    refine (clone_any a n cap la _ (ha.mono hb1) (by omega)).mono ?_
    rintro e w2 ⟨v, rfl, hG, hb2⟩
    obtain ⟨a', cap2, rfl, hs, hg⟩ := hG.sl
    go_wp2
    go_ret3
    have hB := hb1.trans (hb2.mono hb1.size)
    refine ⟨none, 0, 0, a', _, cap2, rfl, ?_, by rw [HR0.out]; exact hs, hB, Prov.empty, ?_⟩
    · rw [HQ0.out, lim_zero]; exact Sl.of_nil _ _ _ (by omega)
    · rcases hg with h | ⟨g, h, hge⟩
      · exact Or.inl h
      · exact Or.inr (Or.inr ⟨g, 0, none, h, Nat.le_trans hb1.size hge⟩)
  · have hs0 : ¬ S < 0 := by
      rw [hS]; unfold cmpN; rw [if_neg hlt]; split <;> omega
    obtain ⟨g, off, rfl, hcb⟩ := hb.at (k := 0) (by omega)
    have HCB := Alg.hid hcb
    have HRd : Hid (R < d) := by show _ < _; rw [hR]; exact Nat.mod_lt _ hd0
    clear hQ hR hS hvd hlt hcb
    go_enter Tryd.func107, Tryd.ntmps107
    go_wp2_with fail
    refine (nat_Cmp a n cap la _ 1 cap' [d] _ ha hb ca cb).mono ?_
    rw [HVD.out, ← HS.out]
    rintro e w1 ⟨rfl, hb1⟩
    have c1 := HCB.out _ hb1
    rw [Nat.add_zero] at c1
    have e1 : nth [d] 0 = d := rfl
    rw [e1] at c1
    clear e1
    go_wp2_with fail
    refine (nat_short a n cap la d _ (ha.mono hb1) hn hd0 hd).mono ?_
    rw [← HQ.out, ← HR.out]
    rintro e w2 ⟨a', n', rfl, hs2, hb2, hp2⟩
    clear c1
    have hrl := HRd.out
    go_wp2_with fail
    refine (nat_Of R _ (by omega)).mono ?_
    rintro e w3 ⟨a3, n3, rfl, hs3, hb3, hp3⟩
    go_wp2
    go_ret3
    rw [limbs_lim (by omega)] at hs3
    exact ⟨_, _, _, _, _, _, rfl, hs2.mono hb3, hs3, hb1.trans ((hb2.trans (hb3.mono hb2.size)).mono hb1.size), hp2.mono hb1.size, hp3.mono (Nat.le_trans hb1.size hb2.size)⟩
end Go.Proofs.YtbnjmeeaaieicaaDoor
end
