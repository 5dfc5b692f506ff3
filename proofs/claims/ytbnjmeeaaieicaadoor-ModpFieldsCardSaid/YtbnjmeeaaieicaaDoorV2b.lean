/- Contract of modp.Order. Contract of the reference's Order. -/
import Derived.Test.YtbnjmeeaaieicaaDoorV2
import Derived.Test.YtbnjmeeaaieicaaDoorW60
open Alg Go Go.RowKit
section
open Alg Go Go.RowKit
namespace Alg
theorem hid_drewN {w1 wr : World} {n : Nat} (h : Hid (Below w1.heap.size w1 wr)) : Hid (Below w1.heap.size w1 (wr.drewN n)) := h.out.trans ((below_drewN wr n).mono h.out.size)
/-- the call hands back an element's order -/
def RetO (p a : Nat) (w : World) (e : Ending) (w' : World) : Prop :=
  ∃ n : Nat, e = .returned (.tuple #[.int .u64 (n : Int), .int .i64 0]) ∧ Ord p a n ∧ n ∣ p - 1 ∧ n < p ∧ Below w.heap.size w w'
theorem RetO.mk {p a n : Nat} {w w' : World} (h1 : Ord p a n) (h2 : n ∣ p - 1) (h3 : n < p) (h4 : Below w.heap.size w w') : RetO p a w (.returned (.tuple #[.int .u64 (n : Int), .int .i64 0])) w' := ⟨n, rfl, h1, h2, h3, h4⟩
end Alg
namespace Go.Proofs.YtbnjmeeaaieicaaDoor
open Go.RowKit
theorem modp_Order0 (p : Nat) (w : World) :
    Calls Tryd.prog 34 #[.int .u32 p, .int .u32 0] w fun e w' => e = .returned (.tuple #[.int .u64 0, .int .i64 3]) ∧ w' = w := by
  go_enter Tryd.func34, Tryd.ntmps34
  go_wp2
  go_ret2
  exact ⟨rfl, rfl⟩
set_option maxRecDepth 100000 in
set_option maxHeartbeats 1000000 in
theorem modp_Order (p a : Nat) (w : World) (hpr : IsPr p) (hp : p < 4294967296) (ha0 : a ≠ 0) (ha : a < p) :
    Calls Tryd.prog 34 #[.int .u32 p, .int .u32 a] w (RetO p a w) := by
  have hp1 : 1 < p := hpr.1
  haveI hne : NeZero p := ⟨by omega⟩
  obtain ⟨q, hq⟩ : ∃ q, q = p - 1 := ⟨_, rfl⟩
  have e2 : (p : Int) - 1 = (q : Int) := by omega
  have e1 : (1 : Int) % (p : Int) = 1 := Int.emod_eq_of_lt (by omega) (by omega)
  have START : Hid (∀ l, OI p a l q 0) := fun l => by rw [hq]; exact OI.start hp1 (fermat_N hpr ha0 ha)
  have HQ := Alg.hid hq
  have hqp : q < p := by omega
  have hq0 : 0 < q := by omega
  have g0 : ((a : Int) == 0) = false := by simp; omega
  clear hq
  go_enter Tryd.func34, Tryd.ntmps34
  go_wp2_with fail
  refine (prime_Factor q _ hq0 (by omega)).mono ?_
  rintro e w1 ⟨b, m, cap, l, b', cap', ks, rfl, hf, hs, _, hb1, hbq, _⟩
  have hlen := hs.len
  have hcap := hs.cap
  have hle := hs.le
  have LEN := Alg.hid hlen
  have HF := Alg.hid hf
  have HS := Alg.hid hs
  have HB1 := Alg.hid hb1
  have HBQ := Alg.hid hbq
  have HPOS : Hid (∀ j, j < m → 0 < nth l j) := fun j hj => by
    have := ((hf.iff _).1 (nth_mem (l := l) (i := j) (by omega))).1.1; omega
  clear hlen hf hs hb1 hbq
  go_wp2
  go_loopw [6, 25] (fun n i wr => ∃ M I : Nat, n = .int .u64 M ∧ i = .int .i64 I ∧ I ≤ m ∧ M < p ∧ Hid (OI p a l M I) ∧ Hid (Below w1.heap.size w1 wr)) (fun _ i _ => m - (intOf i).toNat)
  case atStart => exact ⟨q, 0, rfl, rfl, Nat.zero_le _, hqp, START.out l, Below.refl _ _⟩
  case round =>
    clear START e2
    obtain ⟨M, I, rfl, rfl, hI, hM, ho, hb⟩ := hrel
    by_cases hIm : I < m
    · obtain ⟨Y, hY⟩ : ∃ Y, Y = nth l I := ⟨_, rfl⟩
      have hY2 : 0 < Y := by rw [hY]; exact HPOS.out I hIm
      have hYq : Y ≤ q := by
        have h1 := ((HF.out.iff Y).1 (by rw [hY]; exact nth_mem (by rw [LEN.out]; exact hIm))).2
        exact Nat.le_of_dvd hq0 h1
      obtain ⟨g, rfl, hg⟩ : ∃ g, b = some ⟨g, 0, none⟩ ∧ True := by
        rcases HBQ.out with h | ⟨g, h, _⟩
        · omega
        · exact ⟨g, h, trivial⟩
      have hc : ∀ wr, Below w1.heap.size w1 wr → wr.cell? ⟨g, I, none⟩ = some (.int .u64 (Y : Int)) := fun wr hb => by
        rcases (HS.out.mono hb).rd with h | ⟨g', off, h1, h2⟩
        · omega
        · simp only [Option.some.injEq, Addr.mk.injEq, and_true] at h1
          obtain ⟨rfl, rfl⟩ := h1
          have := h2 I hIm
          rw [Nat.zero_add, ← hY] at this
          exact this
      have hc0 := hc _ hb.out
      have HC := Alg.hid hc
      have hIm' : (I : Int) < (m : Int) := by omega
      have hYz : ((Y : Int) == 0) = false := by simp; omega
      have HYI := Alg.hid hY
      clear hc hg hY
      go_wp2
      clear hc0
      go_loopw [6] (fun n wr => ∃ M : Nat, n = .int .u64 M ∧ M < p ∧ Hid (OI p a l M I) ∧ Hid (Below w1.heap.size w1 wr)) (fun n _ => (intOf n).toNat)
      case atStart => exact ⟨M, rfl, hM, ho, hb⟩
      case round =>
        clear ho hb hM
        obtain ⟨M, rfl, hM, ho, hb⟩ := hrel
        by_cases hd : M % Y = 0
        · have hd1 : (M : Int) % (Y : Int) = 0 := by
            have : (M : Int) % (Y : Int) = ((M % Y : Nat) : Int) := by simp
            rw [this, hd]; rfl
          obtain ⟨Z, hZ⟩ : ∃ Z, Z = M / Y := ⟨_, rfl⟩
          have eZ : (M : Int) / (Y : Int) = (Z : Int) := by rw [hZ]; simp
          have hZp : Z < p := by rw [hZ]; exact Nat.lt_of_le_of_lt (Nat.div_le_self _ _) hM
          obtain ⟨V, hV⟩ : ∃ V, V = powM p a Z := ⟨_, rfl⟩
          have hVp : V < p := by rw [hV]; exact powM_lt _ _ _ (by omega)
          have HV : ∀ W, Calls Tryd.prog 30 #[.int .u32 p, .int .u32 a, .int .u64 Z] W fun e w' => e = .returned (.int .u32 (V : Int)) ∧ w' = W := fun W => by
            rw [hV]; exact modp_Pow p a Z W (by omega) hp (by omega) (by omega)
          have HHV := Alg.hid HV
          by_cases hv1 : V = 1
          · have hM0 := ho.out.M0
            have hY1 : 2 ≤ Y := by
              have h1 := ((HF.out.iff Y).1 (by rw [HYI.out]; exact nth_mem (by rw [LEN.out]; exact hIm))).1.1
              exact h1
            have hZM : Z < M := by rw [hZ]; exact Nat.div_lt_self hM0 (by omega)
            have HO : Hid (OI p a l Z I) := by
              rw [hZ]
              exact ho.out.cut (fun j hj => HPOS.out j (by omega)) hY2 hd (by rw [← hZ]; have := hV; rw [hv1] at this; exact this.symm)
            subst hv1
            clear hd hZ hV HV ho
            go_wp2
            go_quiet ((go_at_call 30; exact Calls.quiet_of_same (HHV.out _)))
            go_wp2
            go_roundw
            case rel => exact ⟨Z, rfl, hZp, HO, by first | exact hb | exact hid_drewN hb⟩
            case measure => simp [intOf]; omega
          · have HN : Hid (OI p a l M (I + 1)) := ho.out.next fun _ h => hv1 (by rw [← HYI.out, ← hZ] at h; rw [hV]; exact h)
            have hv1' : ((V : Int) == 1) = false := by simp; omega
            clear hd hZ hV HV ho hv1
            go_wp2
            go_quiet ((go_at_call 30; exact Calls.quiet_of_same (HHV.out _)))
            go_wp2
            go_roundw
            case rel => exact ⟨M, I + 1, rfl, by go_num, by omega, hM, HN, by first | exact hb | exact hid_drewN hb⟩
            case measure => simp [intOf]; omega
        · have hd1 : ((M : Int) % (Y : Int) == 0) = false := by
            have : (M : Int) % (Y : Int) = ((M % Y : Nat) : Int) := by simp
            rw [this]; simp; omega
          have HN : Hid (OI p a l M (I + 1)) := ho.out.next fun h _ => hd (by rw [← HYI.out] at h; exact Nat.mod_eq_zero_of_dvd h)
          clear hd ho
          go_wp2
          go_quiet (fail)
          go_wp2
          go_roundw
          case rel => exact ⟨M, I + 1, rfl, by go_num, by omega, hM, HN, by first | exact hb | exact hid_drewN hb⟩
          case measure => simp [intOf]; omega
    · have HO := Alg.hid (ho.out.done (ks := ks) (by rw [← HQ.out]; exact HF.out) (by rw [LEN.out]; omega))
      have HD := Alg.hid ho.out.Mp
      go_wp2
      go_ret2
      exact RetO.mk HO.out HD.out hM (HB1.out.trans (hb.out.mono HB1.out.size))
end Go.Proofs.YtbnjmeeaaieicaaDoor
end
section
open Alg Go Go.RowKit
namespace Go.Proofs.YtbnjmeeaaieicaaDoor
open Go.RowKit
theorem ref07_Order0 (p : Nat) (w : World) :
    Calls Tryd.prog 35 #[.int .u32 p, .int .u32 0] w fun e w' => e = .returned (.tuple #[.int .u64 0, .int .i64 3]) ∧ w' = w := by
  go_enter Tryd.func35, Tryd.ntmps35
  go_wp2
  go_ret2
  exact ⟨rfl, rfl⟩
set_option maxRecDepth 100000 in
set_option maxHeartbeats 1000000 in
theorem ref07_Order (p a : Nat) (w : World) (hpr : IsPr p) (hp : p < 4294967296) (ha0 : a ≠ 0) (ha : a < p) :
    Calls Tryd.prog 35 #[.int .u32 p, .int .u32 a] w (RetO p a w) := by
  have hp1 : 1 < p := hpr.1
  haveI hne : NeZero p := ⟨by omega⟩
  obtain ⟨q, hq⟩ : ∃ q, q = p - 1 := ⟨_, rfl⟩
  have e2 : (p : Int) - 1 = (q : Int) := by omega
  have e1 : (1 : Int) % (p : Int) = 1 := Int.emod_eq_of_lt (by omega) (by omega)
  have START : Hid (RI p a q q 2) := by rw [hq]; exact RI.start hp1 (fermat_N hpr ha0 ha)
  have hqp : q < p := by omega
  have g0 : ((a : Int) == 0) = false := by simp; omega
  clear hq
  go_enter Tryd.func35, Tryd.ntmps35
  go_wp2
  go_loopw [6, 7, 8] (fun n t d wr => ∃ M L D : Nat, n = .int .u64 M ∧ t = .int .u64 L ∧ d = .int .u64 D ∧ D ≤ p ∧ Hid (RI p a M L D) ∧ Hid (Below w.heap.size w wr)) (fun _ _ d _ => p + 1 - (intOf d).toNat)
  case atStart => exact ⟨q, q, 2, rfl, rfl, rfl, by omega, START, Below.refl _ _⟩
  case round =>
    clear START e2
    obtain ⟨M, L, D, rfl, rfl, rfl, hDp, hr, hb⟩ := hrel
    have hLp := hr.out.Llt hp1
    have hMp := hr.out.Mlt hp1
    by_cases h1 : 1 < L
    · have hDL := hr.out.DL h1
      have hD2 := hr.out.D2
      have hDD : (D : Int) * (D : Int) ≤ 18446744065119617025 ∧ 0 ≤ (D : Int) * (D : Int) := cMul_le (by omega) (by omega)
      obtain ⟨hDD1, hDD2⟩ := hDD
      by_cases hsq : L < D * D
      · have hsq' : (L : Int) < (D : Int) * (D : Int) := by
          have e : (D : Int) * (D : Int) = ((D * D : Nat) : Int) := by rw [Int.natCast_mul]
          omega
        have HB := Alg.hid (hr.out.big h1 hsq)
        clear hsq
        go_wp2
        go_loopw [6, 7] (fun n t wr => ∃ M L' : Nat, n = .int .u64 M ∧ t = .int .u64 L' ∧ L' ≤ L ∧ Hid (RI p a M L' L) ∧ Hid (Below w.heap.size w wr)) (fun _ t _ => (intOf t).toNat)
        case atStart => exact ⟨M, L, rfl, rfl, Nat.le_refl _, HB, hb⟩
        case round =>
          clear HB hb hr hMp
          obtain ⟨M, L', rfl, rfl, hLL, hr', hb⟩ := hrel
          have hMp := hr'.out.Mlt hp1
          by_cases hd : L' % L = 0
          · have hd1 : (L' : Int) % (L : Int) = 0 := by
              have : (L' : Int) % (L : Int) = ((L' % L : Nat) : Int) := by simp
              rw [this, hd]; rfl
            obtain ⟨X, hX⟩ : ∃ X, X = L' / L := ⟨_, rfl⟩
            have eX : (L' : Int) / (L : Int) = (X : Int) := by rw [hX]; simp
            obtain ⟨hX0, hX2⟩ := hr'.out.L1 hd
            rw [← hX] at hX0 hX2
            obtain ⟨Z, hZ⟩ : ∃ Z, Z = M / L := ⟨_, rfl⟩
            have eZ : (M : Int) / (L : Int) = (Z : Int) := by rw [hZ]; simp
            have hZp : Z < p := by rw [hZ]; exact Nat.lt_of_le_of_lt (Nat.div_le_self _ _) hMp
            obtain ⟨V, hV⟩ : ∃ V, V = powM p a Z := ⟨_, rfl⟩
            have hVp : V < p := by rw [hV]; exact powM_lt _ _ _ (by omega)
            have HV : ∀ W, Calls Tryd.prog 31 #[.int .u32 p, .int .u32 a, .int .u64 Z] W fun e w' => e = .returned (.int .u32 (V : Int)) ∧ w' = W := fun W => by
              rw [hV]; exact ref07_Pow p a Z W hp1 hp (by omega) (by omega)
            have HHV := Alg.hid HV
            by_cases hv1 : V = 1
            · have HO : Hid (RI p a Z X L) := by
                rw [hZ, hX]
                exact hr'.out.cut hd (by rw [← hZ]; have := hV; rw [hv1] at this; exact this.symm)
              subst hv1
              clear hd hZ hV HV hr' hX
              go_wp2
              go_quiet ((go_at_call 31; exact Calls.quiet_of_same (HHV.out _)))
              go_wp2
              go_roundw
              case rel => exact ⟨Z, X, rfl, rfl, by omega, HO, by first | exact hb | exact hid_drewN hb⟩
              case measure => simp [intOf]; omega
            · have HO : Hid (RI p a M X L) := by
                rw [hX]
                exact hr'.out.drop hd (fun h => hv1 (by rw [← hZ] at h; rw [hV]; exact h))
              have hv1' : ((V : Int) == 1) = false := by simp; omega
              clear hd hZ hV HV hr' hX hv1
              go_wp2
              go_quiet ((go_at_call 31; exact Calls.quiet_of_same (HHV.out _)))
              go_wp2
              go_roundw
              case rel => exact ⟨M, X, rfl, rfl, by omega, HO, by first | exact hb | exact hid_drewN hb⟩
              case measure => simp [intOf]; omega
          · have hd1 : ((L' : Int) % (L : Int) == 0) = false := by
              have : (L' : Int) % (L : Int) = ((L' % L : Nat) : Int) := by simp
              rw [this]; simp; omega
            have HN := Alg.hid (hr'.out.next hd)
            clear hd hr'
            go_wp2
            go_roundw
            case rel => exact ⟨M, L', L + 1, rfl, rfl, by go_num, by omega, HN, hb⟩
            case measure => simp [intOf]; omega
      · have hsq' : ¬ (L : Int) < (D : Int) * (D : Int) := by
          have e : (D : Int) * (D : Int) = ((D * D : Nat) : Int) := by rw [Int.natCast_mul]
          omega
        clear hsq
        go_wp2
        go_loopw [6, 7] (fun n t wr => ∃ M L' : Nat, n = .int .u64 M ∧ t = .int .u64 L' ∧ L' ≤ L ∧ Hid (RI p a M L' D) ∧ Hid (Below w.heap.size w wr)) (fun _ t _ => (intOf t).toNat)
        case atStart => exact ⟨M, L, rfl, rfl, Nat.le_refl _, hr, hb⟩
        case round =>
          clear hr hb hMp
          obtain ⟨M, L', rfl, rfl, hLL, hr', hb⟩ := hrel
          have hMp := hr'.out.Mlt hp1
          by_cases hd : L' % D = 0
          · have hd1 : (L' : Int) % (D : Int) = 0 := by
              have : (L' : Int) % (D : Int) = ((L' % D : Nat) : Int) := by simp
              rw [this, hd]; rfl
            obtain ⟨X, hX⟩ : ∃ X, X = L' / D := ⟨_, rfl⟩
            have eX : (L' : Int) / (D : Int) = (X : Int) := by rw [hX]; simp
            obtain ⟨hX0, hX2⟩ := hr'.out.L1 hd
            rw [← hX] at hX0 hX2
            obtain ⟨Z, hZ⟩ : ∃ Z, Z = M / D := ⟨_, rfl⟩
            have eZ : (M : Int) / (D : Int) = (Z : Int) := by rw [hZ]; simp
            have hZp : Z < p := by rw [hZ]; exact Nat.lt_of_le_of_lt (Nat.div_le_self _ _) hMp
            obtain ⟨V, hV⟩ : ∃ V, V = powM p a Z := ⟨_, rfl⟩
            have hVp : V < p := by rw [hV]; exact powM_lt _ _ _ (by omega)
            have HV : ∀ W, Calls Tryd.prog 31 #[.int .u32 p, .int .u32 a, .int .u64 Z] W fun e w' => e = .returned (.int .u32 (V : Int)) ∧ w' = W := fun W => by
              rw [hV]; exact ref07_Pow p a Z W hp1 hp (by omega) (by omega)
            have HHV := Alg.hid HV
            by_cases hv1 : V = 1
            · have HO : Hid (RI p a Z X D) := by
                rw [hZ, hX]
                exact hr'.out.cut hd (by rw [← hZ]; have := hV; rw [hv1] at this; exact this.symm)
              subst hv1
              clear hd hZ hV HV hr' hX
              go_wp2
              go_quiet ((go_at_call 31; exact Calls.quiet_of_same (HHV.out _)))
              go_wp2
              go_roundw
              case rel => exact ⟨Z, X, rfl, rfl, by omega, HO, by first | exact hb | exact hid_drewN hb⟩
              case measure => simp [intOf]; omega
            · have HO : Hid (RI p a M X D) := by
                rw [hX]
                exact hr'.out.drop hd (fun h => hv1 (by rw [← hZ] at h; rw [hV]; exact h))
              have hv1' : ((V : Int) == 1) = false := by simp; omega
              clear hd hZ hV HV hr' hX hv1
              go_wp2
              go_quiet ((go_at_call 31; exact Calls.quiet_of_same (HHV.out _)))
              go_wp2
              go_roundw
              case rel => exact ⟨M, X, rfl, rfl, by omega, HO, by first | exact hb | exact hid_drewN hb⟩
              case measure => simp [intOf]; omega
          · have hd1 : ((L' : Int) % (D : Int) == 0) = false := by
              have : (L' : Int) % (D : Int) = ((L' % D : Nat) : Int) := by simp
              rw [this]; simp; omega
            have HN := Alg.hid (hr'.out.next hd)
            clear hd hr'
            go_wp2
            go_roundw
            case rel => exact ⟨M, L', D + 1, rfl, rfl, by go_num, by omega, HN, hb⟩
            case measure => simp [intOf]; omega
    · have hL0 := hr.out.L0
      obtain rfl : L = 1 := by omega
      have HO := Alg.hid hr.out.done
      have HD := Alg.hid hr.out.Mp
      go_wp2
      go_ret2
      exact RetO.mk HO.out HD.out hMp hb.out
end Go.Proofs.YtbnjmeeaaieicaaDoor
end
