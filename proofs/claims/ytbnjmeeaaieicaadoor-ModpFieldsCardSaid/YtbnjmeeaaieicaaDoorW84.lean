/- Contracts of the reference's whole numbers: trim, Of, Neg, Abs, Sign, limb, size. -/
import Derived.Test.YtbnjmeeaaieicaaDoorW80
open Alg Go Go.RowKit
namespace Go.Proofs.YtbnjmeeaaieicaaDoor
open Go.RowKit
theorem ref02_trim_none_f (cap : Nat) (w : World) :
    Calls Tryd.prog 106 #[.bool false, .slice none 0 cap] w (RetT2 false [] w) := by
  have hbx := boxes1 w #[.bool false, .slice none 0 0] 25
  go_enter Tryd.func106, Tryd.ntmps106
  go_wp2
  go_loop [5] (fun v => v = .int .i64 0) (fun v => (intOf v).toNat)
  case atStart => rfl
  case round =>
    obtain rfl := hrel
    go_wp2
    (try simp only [Exit.inBlock, Exit.then])
    refine bodyPost_ret (v := .agg #[.bool false, .slice (some ⟨w.heap.size + 1, 0, none⟩) 0 0]) (by simp [results, Tryd.results106, go_sem]) rfl ?_
    exact ⟨_, 0, 0, rfl, Sl.of_nil _ _ _ (by omega), balloc (balloc (Below.refl _ _) _) _, Prov.empty⟩
theorem ref02_trim_none_t (cap : Nat) (w : World) :
    Calls Tryd.prog 106 #[.bool true, .slice none 0 cap] w (RetT2 true [] w) := by
  have hbx := boxes1 w #[.bool false, .slice none 0 0] 25
  go_enter Tryd.func106, Tryd.ntmps106
  go_wp2
  go_loop [5] (fun v => v = .int .i64 0) (fun v => (intOf v).toNat)
  case atStart => rfl
  case round =>
    obtain rfl := hrel
    go_wp2
    (try simp only [Exit.inBlock, Exit.then])
    refine bodyPost_ret (v := .agg #[.bool false, .slice (some ⟨w.heap.size + 1, 0, none⟩) 0 0]) (by simp [results, Tryd.results106, go_sem]) rfl ?_
    exact ⟨_, 0, 0, rfl, Sl.of_nil _ _ _ (by omega), balloc (balloc (Below.refl _ _) _) _, Prov.empty⟩
theorem ref02_trim (neg : Bool) (a : Option Addr) (n cap : Nat) (l : List Nat) (w : World) (h : Sl w a n cap l) (hn : n ≤ 1000000000) :
    Calls Tryd.prog 106 #[.bool neg, .slice a n cap] w (RetT2 neg (lim (valN l)) w) := by
  rw [← trim_lim h.lt]
  cases a with
  | some x => exact ref02_trim_some neg x n cap l w h hn
  | none =>
    have hn0 : n = 0 := by
      rcases h.rd with h0 | ⟨b, off, h1, _⟩
      · exact h0
      · cases h1
    subst hn0
    have e : l = [] := List.length_eq_zero_iff.1 h.len
    subst e
    cases neg with
    | false => exact ref02_trim_none_f cap w
    | true => exact ref02_trim_none_t cap w
set_option maxRecDepth 100000 in
theorem ref02_Of_nn (m : Nat) (w : World) (hm : m < 9223372036854775808) :
    Calls Tryd.prog 70 #[.int .i64 (m : Int)] w (RetT2 false (lim m) w) := by
  have hbx := boxes1 w #[.bool false, .slice none 0 0] 25
  obtain ⟨x, hx⟩ : ∃ x, x = m % 4294967296 := ⟨_, rfl⟩
  obtain ⟨y, hy⟩ : ∃ y, y = m / 4294967296 := ⟨_, rfl⟩
  have hi : ¬ (m : Int) < 0 := by omega
  have e1 : IntKind.u64.wrap (m : Int) = (m : Int) := IntWalk.u64_in _ (by omega)
  have e2 : IntKind.u32.wrap (m : Int) = (x : Int) := by
    simp only [IntKind.wrap, IntKind.signed, IntKind.bits]; simp; omega
  have e3 : (m : Int) / 4294967296 = (y : Int) := by omega
  have hxl : x < 4294967296 := by omega
  have hyl : y < 4294967296 := by omega
  have e4 : IntKind.u32.wrap (y : Int) = (y : Int) := IntWalk.u32_in _ (by omega)
  have HV : Hid (valN [x, y] = m) := by show x + 4294967296 * (y + 4294967296 * 0) = m; omega
  clear hx hy
  go_enter Tryd.func70, Tryd.ntmps70
  go_wp2_with fail
  have hs := sl_two (w.alloc (.cells #[.bool false, .slice none 0 0] 25)) 22 hxl hyl
  rw [World.size_alloc] at hs
  refine (ref02_trim_some false _ 2 2 [x, y] _ hs (by omega)).mono ?_
  rintro e w2 ⟨a, n, cap, rfl, hs2, hb2, hp2⟩
  rw [trim_lim hs.lt, HV.out] at hs2
  have hx2 := (hbx.alloc_any (.cells #[.int .u32 (x : Int), .int .u32 (y : Int)] 22)).mono hb2
  have k0 : w2.cell? ⟨w.heap.size, 0, none⟩ = some (.bool false) := hx2.cell' 0 0 _ _ rfl rfl
  have k1 : w2.cell? ⟨w.heap.size, 1, none⟩ = some (.slice none 0 0) := hx2.cell' 0 1 _ _ rfl rfl
  have f0 : w2.frozen? ⟨w.heap.size, 0, none⟩ = false := hx2.frozen' 0 0 (by simp)
  have f1 : w2.frozen? ⟨w.heap.size, 1, none⟩ = false := hx2.frozen' 0 1 (by simp)
  clear hs
  go_wp2
  (try simp only [Exit.inBlock, Exit.then])
  refine bodyPost_ret (v := .agg #[.bool (sg false n), .slice a n cap]) (by simp [results, Tryd.results70, go_sem, k0, k1]) rfl ?_
  have hof : Off a n w.heap.size := hp2.off0 (by simp [World.size_alloc]; omega)
  exact ⟨_, _, _, rfl, (hs2.setCell hof _).setCell hof _, (hx2.below.setCell (p := ⟨w.heap.size, 0, none⟩) (by simp) _).setCell (p := ⟨w.heap.size, 1, none⟩) (by simp) _, hp2.mono (by simp [World.size_alloc]; omega)⟩
theorem ref02_Neg (neg : Bool) (a : Option Addr) (n cap : Nat) (l : List Nat) (w : World) (h : Sl w a n cap l) (hn : n ≤ 1000000000) :
    Calls Tryd.prog 133 #[.agg #[.bool neg, .slice a n cap]] w (RetT2 (!neg) (lim (valN l)) w) := by
  have hbx := boxes2 w #[.bool neg, .slice a n cap] #[.bool false, .slice none 0 0] 25 25
  have d0 := hbx.cell' 0 0 _ _ rfl rfl
  have d1 := hbx.cell' 0 1 _ _ rfl rfl
  go_enter Tryd.func133, Tryd.ntmps133
  go_wp2_with fail
  refine (ref02_trim (!neg) a n cap l _ (h.mono hbx.below) hn).mono ?_
  rintro e w2 ⟨a2, n2, cap2, rfl, hs2, hb2, hp2⟩
  have hx2 := hbx.mono hb2
  have k0 : w2.cell? ⟨w.heap.size + 1, 0, none⟩ = some (.bool false) := hx2.cell' 1 0 _ _ rfl rfl
  have k1 : w2.cell? ⟨w.heap.size + 1, 1, none⟩ = some (.slice none 0 0) := hx2.cell' 1 1 _ _ rfl rfl
  have f0 : w2.frozen? ⟨w.heap.size + 1, 0, none⟩ = false := hx2.frozen' 1 0 (by simp)
  have f1 : w2.frozen? ⟨w.heap.size + 1, 1, none⟩ = false := hx2.frozen' 1 1 (by simp)
  have hsz : w.heap.size + 2 ≤ ((w.alloc (.cells #[.bool neg, .slice a n cap] 25)).alloc (.cells #[.bool false, .slice none 0 0] 25)).heap.size := by rw [World.size_alloc, World.size_alloc]; omega
  go_wp2
  (try simp only [Exit.inBlock, Exit.then])
  refine bodyPost_ret (v := .agg #[.bool (sg (!neg) n2), .slice a2 n2 cap2]) (by simp [results, Tryd.results133, go_sem, k0, k1]) rfl ?_
  have hof : Off a2 n2 (w.heap.size + 1) := hp2.off0 (by omega)
  exact ⟨_, _, _, rfl, (hs2.setCell hof _).setCell hof _, (hx2.below.setCell (p := ⟨w.heap.size + 1, 0, none⟩) (by simp) _).setCell (p := ⟨w.heap.size + 1, 1, none⟩) (by simp) _, hp2.mono (by omega)⟩
theorem ref02_Abs (neg : Bool) (a : Option Addr) (n cap : Nat) (l : List Nat) (w : World) (h : Sl w a n cap l) (hn : n ≤ 1000000000) :
    Calls Tryd.prog 135 #[.agg #[.bool neg, .slice a n cap]] w (RetT2 (false) (lim (valN l)) w) := by
  have hbx := boxes2 w #[.bool neg, .slice a n cap] #[.bool false, .slice none 0 0] 25 25
  have d0 := hbx.cell' 0 0 _ _ rfl rfl
  have d1 := hbx.cell' 0 1 _ _ rfl rfl
  go_enter Tryd.func135, Tryd.ntmps135
  go_wp2_with fail
  refine (ref02_trim (false) a n cap l _ (h.mono hbx.below) hn).mono ?_
  rintro e w2 ⟨a2, n2, cap2, rfl, hs2, hb2, hp2⟩
  have hx2 := hbx.mono hb2
  have k0 : w2.cell? ⟨w.heap.size + 1, 0, none⟩ = some (.bool false) := hx2.cell' 1 0 _ _ rfl rfl
  have k1 : w2.cell? ⟨w.heap.size + 1, 1, none⟩ = some (.slice none 0 0) := hx2.cell' 1 1 _ _ rfl rfl
  have f0 : w2.frozen? ⟨w.heap.size + 1, 0, none⟩ = false := hx2.frozen' 1 0 (by simp)
  have f1 : w2.frozen? ⟨w.heap.size + 1, 1, none⟩ = false := hx2.frozen' 1 1 (by simp)
  have hsz : w.heap.size + 2 ≤ ((w.alloc (.cells #[.bool neg, .slice a n cap] 25)).alloc (.cells #[.bool false, .slice none 0 0] 25)).heap.size := by rw [World.size_alloc, World.size_alloc]; omega
  go_wp2
  (try simp only [Exit.inBlock, Exit.then])
  refine bodyPost_ret (v := .agg #[.bool (sg (false) n2), .slice a2 n2 cap2]) (by simp [results, Tryd.results135, go_sem, k0, k1]) rfl ?_
  have hof : Off a2 n2 (w.heap.size + 1) := hp2.off0 (by omega)
  exact ⟨_, _, _, rfl, (hs2.setCell hof _).setCell hof _, (hx2.below.setCell (p := ⟨w.heap.size + 1, 0, none⟩) (by simp) _).setCell (p := ⟨w.heap.size + 1, 1, none⟩) (by simp) _, hp2.mono (by omega)⟩
/-- a sign's number -/
def signN (neg : Bool) (n : Nat) : Int := if n = 0 then 0 else if neg then -1 else 1
theorem ref02_Sign (neg : Bool) (a : Option Addr) (n cap : Nat) (w : World) :
    Calls Tryd.prog 113 #[.agg #[.bool neg, .slice a n cap]] w fun e w' => e = .returned (.int .i64 (signN neg n)) ∧ Below w.heap.size w w' := by
  have hbx := boxes1 w #[.bool neg, .slice a n cap] 25
  have d0 := hbx.cell' 0 0 _ _ rfl rfl
  have d1 := hbx.cell' 0 1 _ _ rfl rfl
  by_cases h : n = 0
  · subst h
    go_enter Tryd.func113, Tryd.ntmps113
    go_wp2
    go_ret
    exact ⟨rfl, hbx.below⟩
  · have h1 : ((n : Int) == 0) = false := by simp; omega
    have h2 : ¬ (n : Int) = 0 := by omega
    cases neg with
    | false =>
      have e : signN false n = 1 := by unfold signN; rw [if_neg h]; rfl
      rw [e]
      clear e
      go_enter Tryd.func113, Tryd.ntmps113
      go_wp2
      go_ret
      exact ⟨rfl, hbx.below⟩
    | true =>
      have e : signN true n = -1 := by unfold signN; rw [if_neg h]; rfl
      rw [e]
      clear e
      go_enter Tryd.func113, Tryd.ntmps113
      go_wp2
      go_ret
      exact ⟨rfl, hbx.below⟩
theorem ref02_limb (a : Option Addr) (n cap : Nat) (l : List Nat) (k : Nat) (w : World) (h : Sl w a n cap l) :
    Calls Tryd.prog 155 #[.slice a n cap, .int .i64 k] w fun e w' => e = .returned (.int .u64 (nth l k : Nat)) ∧ w' = w := by
  have hcap := h.cap
  have hle := h.le
  by_cases hk : k < n
  · have hk' : (k : Int) < (n : Int) := by omega
    obtain ⟨b, off, rfl, hc⟩ := h.at hk
    have c1 := hc _ (Below.refl _ _)
    obtain ⟨x, hx⟩ : ∃ x, x = nth l k := ⟨_, rfl⟩
    have hxl : x < 4294967296 := by rw [hx]; exact h.lt k
    rw [← hx] at c1 ⊢
    clear hc hx
    go_enter Tryd.func155, Tryd.ntmps155
    go_wp2
    go_ret
    exact ⟨rfl, rfl⟩
  · have hk' : ¬ (k : Int) < (n : Int) := by omega
    have hz : nth l k = 0 := Sl.nth_ge h (by omega)
    rw [hz]
    clear hz hk
    go_enter Tryd.func155, Tryd.ntmps155
    go_wp2
    go_ret
    exact ⟨rfl, rfl⟩
set_option maxRecDepth 100000 in
set_option maxHeartbeats 1000000 in
theorem ref02_size (a : Option Addr) (n cap : Nat) (la : List Nat) (b : Option Addr) (m cap' : Nat) (lb : List Nat) (w : World) (ha : Sl w a n cap la) (hb : Sl w b m cap' lb) (ca : Canon 4294967296 la) (cb : Canon 4294967296 lb) :
    Calls Tryd.prog 153 #[.slice a n cap, .slice b m cap'] w fun e w' => e = .returned (.int .i64 (cmpN (valN la) (valN lb))) ∧ Below w.heap.size w w' := by
  have hal := ha.len
  have hbl := hb.len
  have hac := ha.cap
  have hbc := hb.cap
  have han := ha.le
  have hbn := hb.le
  obtain ⟨R, hR⟩ : ∃ R, R = cmpN (valN la) (valN lb) := ⟨_, rfl⟩
  rw [← hR]
  by_cases h1 : n < m
  · have HR : Hid (R = -1) := by rw [hR]; exact cmpN_lt (lt_len ha.lt cb (by omega))
    have g1 : ((n : Int) == (m : Int)) = false := by simp; omega
    have g2 : (n : Int) < (m : Int) := by omega
    clear hR
    go_enter Tryd.func153, Tryd.ntmps153
    go_wp2
    go_ret
    exact ⟨ret_int HR.out.symm, Below.refl _ _⟩
  by_cases h2 : m < n
  · have HR : Hid (R = 1) := by rw [hR]; exact cmpN_gt (lt_len hb.lt ca (by omega))
    have g1 : ((n : Int) == (m : Int)) = false := by simp; omega
    have g2 : ¬ (n : Int) < (m : Int) := by omega
    clear hR
    go_enter Tryd.func153, Tryd.ntmps153
    go_wp2
    go_ret
    exact ⟨ret_int HR.out.symm, Below.refl _ _⟩
  obtain rfl : n = m := by omega
  have HR := Alg.hid hR
  have HAL := Alg.hid hal
  have HBL := Alg.hid hbl
  clear hR hal hbl h1 h2
  go_enter Tryd.func153, Tryd.ntmps153
  go_wp2
  go_loopw [5] (fun i wr => ∃ k : Nat, i = .int .i64 ((k : Int) - 1) ∧ k ≤ n ∧ Hid (∀ j, k ≤ j → j < n → nth la j = nth lb j) ∧ Hid (Below w.heap.size w wr)) (fun i _ => (intOf i + 1).toNat)
  case atStart => exact ⟨n, rfl, Nat.le_refl _, fun j h1 h2 => by omega, Below.refl _ _⟩
  case round =>
    obtain ⟨k, rfl, hk, hal, hbw⟩ := hrel
    by_cases k0 : k = 0
    · subst k0
      have HZ : Hid (R = 0) := by show _ = _; rw [HR.out, all_alike HAL.out HBL.out hal.out]; exact cmpN_eq _
      go_wp2
      go_ret
      exact ⟨ret_int HZ.out.symm, hbw.out⟩
    · obtain ⟨j, rfl⟩ : ∃ j, k = j + 1 := ⟨k - 1, by omega⟩
      have ej : ((j + 1 : Nat) : Int) - 1 = (j : Int) := by omega
      obtain ⟨g, off, rfl, hca⟩ := ha.at (k := j) (by omega)
      obtain ⟨g', off', rfl, hcb⟩ := hb.at (k := j) (by omega)
      obtain ⟨x, hx⟩ : ∃ x, x = nth la j := ⟨_, rfl⟩
      obtain ⟨y, hy⟩ : ∃ y, y = nth lb j := ⟨_, rfl⟩
      rw [← hx] at hca
      rw [← hy] at hcb
      have HCA := Alg.hid hca
      have HCB := Alg.hid hcb
      have c1 := hca _ hbw.out
      have c2 := hcb _ hbw.out
      have hjn : (j : Int) < (n : Int) := by omega
      have hxl : x < 4294967296 := by rw [hx]; exact ha.lt j
      have hyl : y < 4294967296 := by rw [hy]; exact hb.lt j
      clear hca hcb
      by_cases h1 : x < y
      · have HZ : Hid (R = -1) := by
          show _ = _
          rw [HR.out]; exact cmpN_lt (lt_at HAL.out HBL.out ha.lt hal.out (by rw [← hx, ← hy]; exact h1))
        have h1' : (x : Int) < (y : Int) := by omega
        clear hx hy h1
        rw [ej]
        go_wp2
        go_quiet (fail)
        go_wp2
        go_ret
        exact ⟨ret_int HZ.out.symm, by first | exact hbw.out | exact (hid_drewW hbw).out⟩
      · have h1' : ¬ (x : Int) < (y : Int) := by omega
        by_cases h2 : y < x
        · have HZ : Hid (R = 1) := by
            show _ = _
            rw [HR.out]; exact cmpN_gt (lt_at HBL.out HAL.out hb.lt (fun j h1 h2 => (hal.out j h1 h2).symm) (by rw [← hx, ← hy]; exact h2))
          have h2' : (y : Int) < (x : Int) := by omega
          clear hx hy h1 h2
          rw [ej]
          go_wp2
          go_quiet (fail)
          have c1' := HCA.out _ (hid_drewW (n := nq) hbw).out
          have c2' := HCB.out _ (hid_drewW (n := nq) hbw).out
          go_wp2
          go_quiet (fail)
          go_wp2
          go_ret
          exact ⟨ret_int HZ.out.symm, by first | exact hbw.out | exact (hid_drewW hbw).out | exact (hid_drewW (hid_drewW hbw)).out⟩
        · have h2' : ¬ (y : Int) < (x : Int) := by omega
          have HN : Hid (∀ i, j ≤ i → i < n → nth la i = nth lb i) := fun i h3 h4 => by
            by_cases e : i = j
            · subst e; rw [← hx, ← hy]; omega
            · exact hal.out i (by omega) h4
          clear hx hy h1 h2 hal
          rw [ej]
          go_wp2
          go_quiet (fail)
          have c1' := HCA.out _ (hid_drewW (n := nq) hbw).out
          have c2' := HCB.out _ (hid_drewW (n := nq) hbw).out
          go_wp2
          go_quiet (fail)
          go_wp2
          go_roundw
          case rel => exact ⟨j, rfl, by omega, HN, by first | exact hbw | exact hid_drewW hbw | exact hid_drewW (hid_drewW hbw)⟩
          case measure => simp [intOf]
end Go.Proofs.YtbnjmeeaaieicaaDoor
