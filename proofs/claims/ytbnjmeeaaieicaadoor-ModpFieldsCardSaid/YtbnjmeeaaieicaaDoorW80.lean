/- Contracts of the reference's natural numbers: Trim, at, Cmp, Add, Sub, Of. -/
import Derived.Test.YtbnjmeeaaieicaaDoorV4
import Derived.Test.YtbnjmeeaaieicaaDoorW77
open Alg Go Go.RowKit
namespace Alg
/-- the call hands back limbs, in a slice of its own -/
def RetTr (l : List Nat) (w : World) (e : Ending) (w' : World) : Prop :=
  ∃ a n cap, e = .returned (.slice a n cap) ∧ Sl w' a n cap l ∧ Below w.heap.size w w' ∧ Prov w [] a n ∧ (a = none → cap = 0)
/-- and that all is well -/
def RetTb (l : List Nat) (w : World) (e : Ending) (w' : World) : Prop :=
  ∃ a n cap, e = .returned (.tuple #[.slice a n cap, .bool true]) ∧ Sl w' a n cap l ∧ Below w.heap.size w w' ∧ Prov w [] a n ∧ (a = none → cap = 0)
theorem RetTr.mk {l : List Nat} {w w' : World} {g n cap : Nat} (hs : Sl w' (some ⟨g, 0, none⟩) n cap l) (hb : Below w.heap.size w w') (hg : w.heap.size ≤ g) : RetTr l w (.returned (.slice (some ⟨g, 0, none⟩) n cap)) w' :=
  ⟨_, _, _, rfl, hs, hb, Or.inr (Or.inr ⟨g, 0, none, rfl, hg⟩), fun h => by cases h⟩
theorem no_carry {s P B c a b : Nat} (h : s + P * B * c = a + b) (ha : a < P) (hb : b < P) (hB : 2 ≤ B) : c = 0 := by
  rcases Nat.eq_zero_or_pos c with h7 | h7
  · exact h7
  · exfalso
    have h8 : P * 2 ≤ P * B := Nat.mul_le_mul_left P hB
    have h9 : P * B * 1 ≤ P * B * c := Nat.mul_le_mul_left (P * B) h7
    rw [Nat.mul_one] at h9
    generalize P * B * c = Z at *
    generalize P * B = Y at *
    omega
theorem AddI.full {la lb out : List Nat} {N c : Nat} (h : AddI la lb out (N + 1) c) (ba : ∀ i, nth la i < 4294967296) (bb : ∀ i, nth lb i < 4294967296) (hla : la.length ≤ N) (hlb : lb.length ≤ N) (ho : out.length = N + 1) : valN out = valN la + valN lb := by
  unfold AddI at h
  rw [valN_take_all (by omega), valN_take_all (by omega), valN_take_all (by omega)] at h
  have h2 := valN_lt la ba
  have h3 := valN_lt lb bb
  have h4 : 4294967296 ^ la.length ≤ 4294967296 ^ N := Nat.pow_le_pow_right (by omega) hla
  have h5 : 4294967296 ^ lb.length ≤ 4294967296 ^ N := Nat.pow_le_pow_right (by omega) hlb
  have h6 : 4294967296 ^ (N + 1) = 4294967296 ^ N * 4294967296 := Nat.pow_succ _ _
  rw [h6] at h
  have hc := no_carry h (Nat.lt_of_lt_of_le h2 h4) (Nat.lt_of_lt_of_le h3 h5) (by decide)
  subst hc
  rw [Nat.mul_zero, Nat.add_zero] at h
  exact h
end Alg
namespace Go.Proofs.YtbnjmeeaaieicaaDoor
open Go.RowKit
set_option maxRecDepth 100000 in
set_option maxHeartbeats 1000000 in
theorem ref01_Trim_some (x : Addr) (n cap : Nat) (l : List Nat) (w : World) (h : Sl w (some x) n cap l) (hn : n ≤ 1000000000) :
    Calls Tryd.prog 143 #[.slice (some x) n cap] w (RetTr (trim l) w) := by
  obtain ⟨i0, hi, hz0, hz1, hz2⟩ := info_parts Tryd.infoN
  have hle := h.le
  have hcap := h.cap
  go_enter Tryd.func143, Tryd.ntmps143
  go_wp2
  go_loop [3] (fun v => ∃ k : Nat, v = .int .i64 k ∧ k ≤ n ∧ Hid (∀ i, k ≤ i → i < n → nth l i = 0)) (fun v => (intOf v).toNat)
  case atStart => exact ⟨n, rfl, Nat.le_refl _, fun i h1 h2 => by omega⟩
  case round =>
    obtain ⟨k, rfl, hk, hz⟩ := hrel
    have fin : (k = 0 ∨ nth l (k - 1) ≠ 0) → Hid (l.take k = trim l) := fun hx => trim_nth l n k h.len hk hz.out hx
    by_cases hx : 0 < k ∧ nth l (k - 1) = 0
    · obtain ⟨k0, hx⟩ := hx
      have k0' : (0 : Int) < (k : Int) := by omega
      obtain ⟨j, rfl⟩ : ∃ j, k = j + 1 := ⟨k - 1, by omega⟩
      rw [Nat.add_sub_cancel] at hx
      have ej : ((j + 1 : Nat) : Int) - 1 = (j : Int) := by omega
      obtain ⟨b, off, hax, hc⟩ := h.at (k := j) (by omega)
      simp only [Option.some.injEq] at hax
      subst hax
      have c1 := hc _ (Below.refl _ _)
      rw [hx] at c1
      have hjn : (j : Int) < (n : Int) := by omega
      have HN : Hid (∀ i, j ≤ i → i < n → nth l i = 0) := fun i h1 h2 => by
        by_cases e : i = j
        · rw [e]; exact hx
        · exact hz.out i (by omega) h2
      clear hc hz fin hx
      go_wp2
      go_round
      case rel => exact ⟨j, by go_num, by omega, HN⟩
      case measure => simp [intOf]
    · have HF := fin (by omega)
      have HL : Hid ((l.take k).length = k) := by show _ = _; rw [List.length_take, h.len]; omega
      have hown : (w.alloc (.cells #[] 22)).ownsRow w.heap.size 22 1 (.slice (some ⟨w.heap.size, 0, none⟩) 0 0) 0 [] := by
        refine ⟨rfl, Or.inr ⟨w.heap.size, 0, #[], rfl, Nat.le_refl _, ?_, Nat.le_refl _, Nat.zero_le _, rfl, rfl⟩⟩
        show (w.heap.push _)[w.heap.size]? = _
        rw [Array.getElem?_push_size]
      have HO := Alg.hid hown
      have HN := Alg.hid (h.cell_take ((Below.refl w.heap.size w).alloc (Nat.le_refl _) (.cells #[] 22)) hk)
      have H1 := Alg.hid (vals_one (l.take k))
      have HV : Hid ((vals (l.take k)).length = k * 1) := by show _ = _; simp only [vals, List.length_map, HL.out]; omega
      have q1 : 0 + k ≤ maxLen := by unfold maxLen; omega
      have q2 : (0 + k) * 4 ≤ 140737488355328 := by omega
      clear hown fin hz
      by_cases k0 : k = 0
      · subst k0
        clear hx
        go_wp2
        go_ret
        have e1 : trim l = [] := by rw [← HF.out, List.take_zero]
        rw [e1]
        exact RetTr.mk (Sl.of_nil _ _ _ (by omega)) (balloc (Below.refl _ _) _) (Nat.le_refl _)
      · have k0' : (0 : Int) < (k : Int) := by omega
        have kx : 0 < k := by omega
        obtain ⟨j, hj⟩ : ∃ j, j + 1 = k := ⟨k - 1, by omega⟩
        have ej : (k : Int) - 1 = (j : Int) := by omega
        obtain ⟨b, off, hax, hc⟩ := h.at (k := j) (by omega)
        simp only [Option.some.injEq] at hax
        subst hax
        have hcx := hc _ (Below.refl _ _)
        have hnz : ((nth l j : Int) == 0) = false := by
          have : nth l (k - 1) ≠ 0 := by omega
          rw [show k - 1 = j by omega] at this
          simp; omega
        have hjn : (j : Int) < (n : Int) := by omega
        have hkn : (k : Int) ≤ (n : Int) := by omega
        have HJ := Alg.hid hj
        clear hx hc k0 hj
        go_wp2_with (at_builtin; refine wpList_append_lies _ rfl _ _ 23 rfl w.heap.size 22 i0 (.int .u32 0) 1 4 Tryd.underlying23 hi hz0 hz1 hz2 rfl Nat.one_pos _ 0 [] rfl HO.out ⟨b, off, none⟩ k cap (vals (l.take k)) rfl HV.out HN.out H1.out kx q1 q2 (by rw [World.size_alloc]; omega) (w.heap.size + 1) (World.size_alloc _ _) ?_; intro g cg w1 hown1 hgrow hat hlt)
        clear hcx
        go_ret
        have hA : Arr w1 22 w.heap.size g (0 + k) cg (trim l) := by
          rw [← HF.out]
          exact ⟨by simpa using hown1, fun i => nth_take' l k i h.lt⟩
        have hsp := hA.split
        have hs := hA.sl (by have := hsp.2.2.1; unfold maxLen at this; omega)
        rw [Nat.zero_add] at hs
        have hB := (balloc (Below.refl w.heap.size w) (.cells #[] 22)).grown hgrow (by rw [World.size_alloc]; omega) (fun q hq => by
          have hq' : some w.heap.size = some q := hq
          have := Option.some.inj hq'
          omega)
        exact RetTr.mk hs hB hsp.1
theorem ref01_Trim_none (cap : Nat) (w : World) :
    Calls Tryd.prog 143 #[.slice none 0 cap] w (RetTr [] w) := by
  go_enter Tryd.func143, Tryd.ntmps143
  go_wp2
  go_loop [3] (fun v => v = .int .i64 0) (fun v => (intOf v).toNat)
  case atStart => rfl
  case round =>
    obtain rfl := hrel
    go_wp2
    go_ret
    exact RetTr.mk (Sl.of_nil _ _ _ (by omega)) (balloc (Below.refl _ _) _) (Nat.le_refl _)
theorem ref01_Trim (a : Option Addr) (n cap : Nat) (l : List Nat) (w : World) (h : Sl w a n cap l) (hn : n ≤ 1000000000) :
    Calls Tryd.prog 143 #[.slice a n cap] w (RetTr (trim l) w) := by
  cases a with
  | some x => exact ref01_Trim_some x n cap l w h hn
  | none =>
    have hn0 : n = 0 := by
      rcases h.rd with h0 | ⟨b, off, h1, _⟩
      · exact h0
      · cases h1
    subst hn0
    have e : l = [] := List.length_eq_zero_iff.1 h.len
    subst e
    exact ref01_Trim_none cap w
theorem ref01_at (a : Option Addr) (n cap : Nat) (l : List Nat) (k : Nat) (w : World) (h : Sl w a n cap l) :
    Calls Tryd.prog 151 #[.slice a n cap, .int .i64 k] w fun e w' => e = .returned (.int .u64 (nth l k : Nat)) ∧ w' = w := by
  have hcap := h.cap
  have hle := h.le
  by_cases hk : k < n
  · have hk' : (k : Int) < (n : Int) := by omega
    obtain ⟨b, off, rfl, hc⟩ := h.at hk
    have c1 := hc _ (Below.refl _ _)
    obtain ⟨x, hx⟩ : ∃ x, x = nth l k := ⟨_, rfl⟩
    have hxl : x < 4294967296 := by rw [hx]; exact h.lt k
    rw [← hx] at c1 ⊢
    clear hc hx
    go_enter Tryd.func151, Tryd.ntmps151
    go_wp2
    go_ret
    exact ⟨rfl, rfl⟩
  · have hk' : ¬ (k : Int) < (n : Int) := by omega
    have hz : nth l k = 0 := Sl.nth_ge h (by omega)
    rw [hz]
    clear hz hk
    go_enter Tryd.func151, Tryd.ntmps151
    go_wp2
    go_ret
    exact ⟨rfl, rfl⟩
set_option maxRecDepth 100000 in
set_option maxHeartbeats 1000000 in
theorem ref01_Cmp (a : Option Addr) (n cap : Nat) (la : List Nat) (b : Option Addr) (m cap' : Nat) (lb : List Nat) (w : World) (ha : Sl w a n cap la) (hb : Sl w b m cap' lb) (ca : Canon 4294967296 la) (cb : Canon 4294967296 lb) :
    Calls Tryd.prog 144 #[.slice a n cap, .slice b m cap'] w fun e w' => e = .returned (.int .i64 (cmpN (valN la) (valN lb))) ∧ Below w.heap.size w w' := by
  have hal := ha.len
  have hbl := hb.len
  have hac := ha.cap
  have hbc := hb.cap
  have han := ha.le
  have hbn := hb.le
  obtain ⟨R, hR⟩ : ∃ R, R = cmpN (valN la) (valN lb) := ⟨_, rfl⟩
  rw [← hR]
  by_cases h1 : n < m
  · have HR : Hid (R = -1) := by rw [hR]; exact cmpN_lt (lt_len ha.lt cb (by omega))
    have g1 : ((n : Int) == (m : Int)) = false := by simp; omega
    have g2 : (n : Int) < (m : Int) := by omega
    clear hR
    go_enter Tryd.func144, Tryd.ntmps144
    go_wp2
    go_ret
    exact ⟨ret_int HR.out.symm, Below.refl _ _⟩
  by_cases h2 : m < n
  · have HR : Hid (R = 1) := by rw [hR]; exact cmpN_gt (lt_len hb.lt ca (by omega))
    have g1 : ((n : Int) == (m : Int)) = false := by simp; omega
    have g2 : ¬ (n : Int) < (m : Int) := by omega
    clear hR
    go_enter Tryd.func144, Tryd.ntmps144
    go_wp2
    go_ret
    exact ⟨ret_int HR.out.symm, Below.refl _ _⟩
  obtain rfl : n = m := by omega
  have HR := Alg.hid hR
  have HAL := Alg.hid hal
  have HBL := Alg.hid hbl
  clear hR hal hbl h1 h2
  go_enter Tryd.func144, Tryd.ntmps144
  go_wp2
  go_loopw [5] (fun i wr => ∃ k : Nat, i = .int .i64 ((k : Int) - 1) ∧ k ≤ n ∧ Hid (∀ j, k ≤ j → j < n → nth la j = nth lb j) ∧ Hid (Below w.heap.size w wr)) (fun i _ => (intOf i + 1).toNat)
  case atStart => exact ⟨n, rfl, Nat.le_refl _, fun j h1 h2 => by omega, Below.refl _ _⟩
  case round =>
    obtain ⟨k, rfl, hk, hal, hbw⟩ := hrel
    by_cases k0 : k = 0
    · subst k0
      have HZ : Hid (R = 0) := by show _ = _; rw [HR.out, all_alike HAL.out HBL.out hal.out]; exact cmpN_eq _
      go_wp2
      go_ret
      exact ⟨ret_int HZ.out.symm, hbw.out⟩
    · obtain ⟨j, rfl⟩ : ∃ j, k = j + 1 := ⟨k - 1, by omega⟩
      have ej : ((j + 1 : Nat) : Int) - 1 = (j : Int) := by omega
      obtain ⟨g, off, rfl, hca⟩ := ha.at (k := j) (by omega)
      obtain ⟨g', off', rfl, hcb⟩ := hb.at (k := j) (by omega)
      obtain ⟨x, hx⟩ : ∃ x, x = nth la j := ⟨_, rfl⟩
      obtain ⟨y, hy⟩ : ∃ y, y = nth lb j := ⟨_, rfl⟩
      rw [← hx] at hca
      rw [← hy] at hcb
      have HCA := Alg.hid hca
      have HCB := Alg.hid hcb
      have c1 := hca _ hbw.out
      have c2 := hcb _ hbw.out
      have hjn : (j : Int) < (n : Int) := by omega
      have hxl : x < 4294967296 := by rw [hx]; exact ha.lt j
      have hyl : y < 4294967296 := by rw [hy]; exact hb.lt j
      clear hca hcb
      by_cases h1 : x < y
      · have HZ : Hid (R = -1) := by
          show _ = _
          rw [HR.out]; exact cmpN_lt (lt_at HAL.out HBL.out ha.lt hal.out (by rw [← hx, ← hy]; exact h1))
        have h1' : (x : Int) < (y : Int) := by omega
        clear hx hy h1
        rw [ej]
        go_wp2
        go_quiet (fail)
        go_wp2
        go_ret
        exact ⟨ret_int HZ.out.symm, by first | exact hbw.out | exact (hid_drewW hbw).out⟩
      · have h1' : ¬ (x : Int) < (y : Int) := by omega
        by_cases h2 : y < x
        · have HZ : Hid (R = 1) := by
            show _ = _
            rw [HR.out]; exact cmpN_gt (lt_at HBL.out HAL.out hb.lt (fun j h1 h2 => (hal.out j h1 h2).symm) (by rw [← hx, ← hy]; exact h2))
          have h2' : (y : Int) < (x : Int) := by omega
          clear hx hy h1 h2
          rw [ej]
          go_wp2
          go_quiet (fail)
          have c1' := HCA.out _ (hid_drewW (n := nq) hbw).out
          have c2' := HCB.out _ (hid_drewW (n := nq) hbw).out
          go_wp2
          go_quiet (fail)
          go_wp2
          go_ret
          exact ⟨ret_int HZ.out.symm, by first | exact hbw.out | exact (hid_drewW hbw).out | exact (hid_drewW (hid_drewW hbw)).out⟩
        · have h2' : ¬ (y : Int) < (x : Int) := by omega
          have HN : Hid (∀ i, j ≤ i → i < n → nth la i = nth lb i) := fun i h3 h4 => by
            by_cases e : i = j
            · subst e; rw [← hx, ← hy]; omega
            · exact hal.out i (by omega) h4
          clear hx hy h1 h2 hal
          rw [ej]
          go_wp2
          go_quiet (fail)
          have c1' := HCA.out _ (hid_drewW (n := nq) hbw).out
          have c2' := HCB.out _ (hid_drewW (n := nq) hbw).out
          go_wp2
          go_quiet (fail)
          go_wp2
          go_roundw
          case rel => exact ⟨j, rfl, by omega, HN, by first | exact hbw | exact hid_drewW hbw | exact hid_drewW (hid_drewW hbw)⟩
          case measure => simp [intOf]
set_option maxRecDepth 100000 in
set_option maxHeartbeats 1000000 in
theorem ref01_Add (a : Option Addr) (n cap : Nat) (la : List Nat) (b : Option Addr) (m cap' : Nat) (lb : List Nat) (w : World) (ha : Sl w a n cap la) (hb : Sl w b m cap' lb) (hn : n ≤ 1000000) (hm : m ≤ 1000000) :
    Calls Tryd.prog 147 #[.slice a n cap, .slice b m cap'] w (RetTr (lim (valN la + valN lb)) w) := by
  obtain ⟨i0, hi, hz0, hz1, hz2⟩ := info_parts Tryd.infoN
  have hal := ha.len
  have hbl := hb.len
  obtain ⟨V, hV⟩ : ∃ V, V = valN la + valN lb := ⟨_, rfl⟩
  rw [← hV]
  obtain ⟨N, hN⟩ : ∃ N, N = max n m := ⟨_, rfl⟩
  have hN1 : max (n : Int) (m : Int) = (N : Int) := by omega
  have hN2 : (if (n : Int) < (m : Int) then (m : Int) else (n : Int)) = (N : Int) := by split <;> omega
  have hN3 : (if n < m then (m : Int) else (n : Int)) = (N : Int) := by split <;> omega
  have hnN : n ≤ N := by omega
  have hmN : m ≤ N := by omega
  have hNl : N ≤ 1000000 := by omega
  have HV := Alg.hid hV
  have HAL := Alg.hid hal
  have HBL := Alg.hid hbl
  clear hV hal hbl hN
  go_enter Tryd.func147, Tryd.ntmps147
  go_wp2_with (at_make; refine wpList_make_full _ rfl _ _ 23 rfl w.heap.size 22 i0 (.int .u32 0) 1 Tryd.underlying23 hi hz0 hz1 .i64 .i64 _ _ (N + 1) rfl rfl (by simp) (by simp) (by rw [hz2]; omega) (by unfold maxLen; omega) (by simp) ?_; rw [madeCells_u32]; intro w1 hown hgr; have hA1 : Arr w1 22 w.heap.size w.heap.size (N + 1) (N + 1) (List.replicate (N + 1) 0) := ⟨hown, zeros_lt _⟩; have hB1 := below_grown hgr; clear hown hgr hN1 hN2 hN3)
  go_loopw [6, 7] (fun cc i wr => ∃ k c : Nat, ∃ out : List Nat, i = .int .i64 k ∧ cc = .int .u64 c ∧ k ≤ N + 1 ∧ c ≤ 1 ∧ Hid (AddI la lb out k c) ∧ Hid (Arr wr 22 w.heap.size w.heap.size (N + 1) (N + 1) out) ∧ Hid (Below w.heap.size w wr)) (fun _ i _ => N + 1 - (intOf i).toNat)
  case atStart => exact ⟨0, 0, _, rfl, rfl, Nat.zero_le _, by omega, AddI.start _ _ _, hA1, hB1⟩
  case round =>
    clear hA1 hB1
    obtain ⟨k, c, out, rfl, rfl, hk, hc, hI, hA, hbw⟩ := hrel
    have hlen := hA.out.len
    have HLEN := Alg.hid hlen
    clear hlen
    by_cases hkn : k < N + 1
    · have hkn' : (k : Int) < (N : Int) + 1 := by omega
      have c2 := hA.out.cell (i := k) hkn
      have f2 := hA.out.frozen k
      obtain ⟨x, hx⟩ : ∃ x, x = nth la k := ⟨_, rfl⟩
      have hxl : x < 4294967296 := by rw [hx]; exact ha.lt k
      obtain ⟨y, hy⟩ : ∃ y, y = nth lb k := ⟨_, rfl⟩
      have hyl : y < 4294967296 := by rw [hy]; exact hb.lt k
      obtain ⟨s, hs⟩ : ∃ s, s = (x + y + c) % 4294967296 := ⟨_, rfl⟩
      obtain ⟨c', hc'⟩ : ∃ c', c' = (x + y + c) / 4294967296 := ⟨_, rfl⟩
      have es : ((x : Int) + (y : Int) + (c : Int)) % 4294967296 = (s : Int) := by omega
      have ec : ((x : Int) + (y : Int) + (c : Int)) / 4294967296 = (c' : Int) := by omega
      have hsl : s < 4294967296 := by omega
      have hcl : c' ≤ 1 := by omega
      have HN : Hid (AddI la lb (out.set k s) (k + 1) c') := by
        rw [hs, hc', hx, hy]; exact hI.out.step (by rw [HLEN.out]; exact hkn)
      have HX := Alg.hid hx
      have HY := Alg.hid hy
      clear hx hy hs hc' hI
      go_wp2_with fail
      refine (ref01_at a n cap la k _ (ha.mono hbw.out)).mono ?_
      rw [← HX.out]
      rintro e w' ⟨rfl, rfl⟩
      go_wp2_with fail
      refine (ref01_at b m cap' lb k _ (hb.mono hbw.out)).mono ?_
      rw [← HY.out]
      rintro e w' ⟨rfl, rfl⟩
      go_wp2
      go_roundw
      case rel => exact ⟨k + 1, c', out.set k s, by go_num, by first | rfl | rw [ec], by omega, hcl, HN, hA.out.set k s hsl, hbw.out.setCell (p := ⟨w.heap.size, k, none⟩) (Nat.le_refl _) _⟩
      case measure => simp [intOf]; omega
    · obtain rfl : k = N + 1 := by omega
      have HD : Hid (valN out = V) := by
        show _ = _
        rw [HV.out]; exact hI.out.full ha.lt hb.lt (by rw [HAL.out]; exact hnN) (by rw [HBL.out]; exact hmN) HLEN.out
      clear hI
      go_wp2_with fail
      refine (ref01_Trim_some ⟨w.heap.size, 0, none⟩ (N + 1) (N + 1) out _ (hA.out.sl (by omega)) (by omega)).mono ?_
      rw [trim_lim hA.out.lt, HD.out]
      rintro e w' ⟨a', n', c1, rfl, hs', hb', hp', hz'⟩
      go_wp2
      go_ret
      exact ⟨_, _, _, rfl, hs', hbw.out.trans (hb'.mono hbw.out.size), hp'.mono hbw.out.size, hz'⟩
set_option maxRecDepth 100000 in
set_option maxHeartbeats 1000000 in
theorem ref01_Sub (a : Option Addr) (n cap : Nat) (la : List Nat) (b : Option Addr) (m cap' : Nat) (lb : List Nat) (w : World) (ha : Sl w a n cap la) (hb : Sl w b m cap' lb) (hn : n ≤ 1000000)
    (ca : Canon 4294967296 la) (cb : Canon 4294967296 lb) (hle : valN lb ≤ valN la) :
    Calls Tryd.prog 148 #[.slice a n cap, .slice b m cap'] w (RetTb (lim (valN la - valN lb)) w) := by
  obtain ⟨i0, hi, hz0, hz1, hz2⟩ := info_parts Tryd.infoN
  have hal := ha.len
  have hbl := hb.len
  obtain ⟨V, hV⟩ : ∃ V, V = valN la - valN lb := ⟨_, rfl⟩
  rw [← hV]
  have HV := Alg.hid hV
  have hmn : m ≤ n := by
    rcases Nat.lt_or_ge n m with h | h
    · have := lt_len ha.lt cb (by omega); omega
    · exact h
  obtain ⟨R, hR⟩ : ∃ R, R = cmpN (valN la) (valN lb) := ⟨_, rfl⟩
  have hR0 : ¬ R < 0 := by
    rw [hR]; unfold cmpN; rw [if_neg (by omega)]; split <;> omega
  have HR := Alg.hid hR
  have HAL := Alg.hid hal
  have HBL := Alg.hid hbl
  have HLE := Alg.hid hle
  clear hal hbl hle hV hR
  go_enter Tryd.func148, Tryd.ntmps148
  go_wp2_with fail
  refine (ref01_Cmp a n cap la b m cap' lb _ ha hb ca cb).mono ?_
  rw [← HR.out]
  rintro e w0 ⟨rfl, hb0⟩
  have ha0 := ha.mono hb0
  have hb00 := hb.mono hb0
  clear ha hb
  have s0 := hb0.size
  go_wp2_with (at_make; refine wpList_make_full _ rfl _ _ 23 rfl w0.heap.size 22 i0 (.int .u32 0) 1 Tryd.underlying23 hi hz0 hz1 .i64 .i64 _ _ n rfl rfl (by simp) (by simp) (by rw [hz2]; omega) (by unfold maxLen; omega) (by simp) ?_; rw [madeCells_u32]; intro w1 hown hgr; have hA1 : Arr w1 22 w0.heap.size w0.heap.size n n (List.replicate n 0) := ⟨hown, zeros_lt _⟩; have hB1 := below_grown hgr; clear hown hgr)
  go_loopw [7, 8] (fun cc i wr => ∃ k c : Nat, ∃ out : List Nat, i = .int .i64 k ∧ cc = .int .u64 c ∧ k ≤ n ∧ c ≤ 1 ∧ Hid (SubI la lb out k c) ∧ Hid (Arr wr 22 w0.heap.size w0.heap.size n n out) ∧ Hid (Below w0.heap.size w0 wr)) (fun _ i _ => n - (intOf i).toNat)
  case atStart => exact ⟨0, 0, _, rfl, rfl, Nat.zero_le _, by omega, SubI.start _ _ _, hA1, hB1⟩
  case round =>
    clear hA1 hB1
    obtain ⟨k, c, out, rfl, rfl, hk, hc, hI, hA, hbw⟩ := hrel
    have hlen := hA.out.len
    have HLEN := Alg.hid hlen
    clear hlen
    by_cases hkn : k < n
    · have hkn' : (k : Int) < (n : Int) := by omega
      have c2 := hA.out.cell (i := k) hkn
      have f2 := hA.out.frozen k
      obtain ⟨x, hx⟩ : ∃ x, x = nth la k := ⟨_, rfl⟩
      have hxl : x < 4294967296 := by rw [hx]; exact ha0.lt k
      obtain ⟨y, hy⟩ : ∃ y, y = nth lb k := ⟨_, rfl⟩
      have hyl : y < 4294967296 := by rw [hy]; exact hb00.lt k
      obtain ⟨Z, hZ⟩ : ∃ Z, Z = 4294967296 + x - y - c := ⟨_, rfl⟩
      have eZ : 4294967296 + (x : Int) - (y : Int) - (c : Int) = (Z : Int) := by omega
      obtain ⟨s, hs⟩ : ∃ s, s = Z % 4294967296 := ⟨_, rfl⟩
      obtain ⟨t, ht⟩ : ∃ t, t = Z / 4294967296 := ⟨_, rfl⟩
      obtain ⟨c', hc'⟩ : ∃ c', c' = 1 - t := ⟨_, rfl⟩
      have es : (Z : Int) % 4294967296 = (s : Int) := by omega
      have et : (Z : Int) / 4294967296 = (t : Int) := by omega
      have ht1 : t ≤ 1 := by omega
      have ec : 1 - (t : Int) = (c' : Int) := by omega
      have hsl : s < 4294967296 := by omega
      have hZl : Z < 8589934592 := by omega
      have hcl : c' ≤ 1 := by omega
      have HN : Hid (SubI la lb (out.set k s) (k + 1) c') := hI.out.step (by rw [HLEN.out]; exact hkn) (by rw [← hx, ← hy]; omega)
      have HX := Alg.hid hx
      have HY := Alg.hid hy
      clear hx hy hs hc' hI hZ ht
      go_wp2_with fail
      refine (ref01_at a n cap la k _ (ha0.mono hbw.out)).mono ?_
      rw [← HX.out]
      rintro e w' ⟨rfl, rfl⟩
      go_wp2_with fail
      refine (ref01_at b m cap' lb k _ (hb00.mono hbw.out)).mono ?_
      rw [← HY.out]
      rintro e w' ⟨rfl, rfl⟩
      go_wp2
      go_roundw
      case rel => exact ⟨k + 1, c', out.set k s, by go_num, rfl, by omega, hcl, HN, hA.out.set k s hsl, hbw.out.setCell (p := ⟨w0.heap.size, k, none⟩) (Nat.le_refl _) _⟩
      case measure => simp [intOf]; omega
    · obtain rfl : k = n := by omega
      have HD : Hid (valN out = V) := by show _ = _; rw [HV.out]; exact hI.out.done (by rw [HAL.out]; omega) (by rw [HBL.out]; omega) HLEN.out hA.out.lt HLE.out
      clear hI
      go_wp2_with fail
      refine (ref01_Trim_some ⟨w0.heap.size, 0, none⟩ k k out _ (hA.out.sl (by omega)) (by omega)).mono ?_
      rw [trim_lim hA.out.lt, HD.out]
      rintro e w' ⟨a', n', c1, rfl, hs', hb', hp', hz'⟩
      go_wp2
      go_ret2
      have hB := hb0.trans (hbw.out.mono s0)
      exact ⟨_, _, _, rfl, hs', hB.trans (hb'.mono hB.size), hp'.mono hB.size, hz'⟩
theorem ref01_Of (n : Nat) (w : World) (hn : n < 18446744073709551616) :
    Calls Tryd.prog 146 #[.int .u64 n] w (RetTr (lim n) w) := by
  obtain ⟨x, hx⟩ : ∃ x, x = n % 4294967296 := ⟨_, rfl⟩
  obtain ⟨y, hy⟩ : ∃ y, y = n / 4294967296 := ⟨_, rfl⟩
  have e1 : (n : Int) % 4294967296 = (x : Int) := by omega
  have e3 : (n : Int) / 4294967296 = (y : Int) := by omega
  have hxl : x < 4294967296 := by omega
  have hyl : y < 4294967296 := by omega
  have HV : Hid (valN [x, y] = n) := by show x + 4294967296 * (y + 4294967296 * 0) = n; omega
  clear hx hy
  go_enter Tryd.func146, Tryd.ntmps146
  go_wp2_with fail
  have hs := sl_two w 22 hxl hyl
  refine (ref01_Trim_some ⟨w.heap.size, 0, none⟩ 2 2 [x, y] _ hs (by omega)).mono ?_
  rw [trim_lim hs.lt, HV.out]
  rintro e w2 ⟨a, k, cap, rfl, hs2, hb2, hp2, hz2⟩
  go_wp2
  go_ret
  have hB := balloc (Below.refl w.heap.size w) (.cells #[.int .u32 (x : Int), .int .u32 (y : Int)] 22)
  exact ⟨_, _, _, rfl, hs2, hB.trans (hb2.mono hB.size), hp2.mono hB.size, hz2⟩
end Go.Proofs.YtbnjmeeaaieicaaDoor
