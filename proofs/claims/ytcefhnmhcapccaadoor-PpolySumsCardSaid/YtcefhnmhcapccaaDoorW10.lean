/- Contracts of the reference's Field, Right, Fair, Pair, Same. -/
import Derived.Test.YtcefhnmhcapccaaDoorW2
import Derived.Test.YtcefhnmhcapccaaDoorWB
import Derived.Test.YtcefhnmhcapccaaDoorA7
open Alg
namespace Alg
open Classical in
/-- what Field answers -/
noncomputable def errP (p : Nat) : Int := if IsPr p ∧ p < 2147483648 then 0 else 6
open Classical in
/-- may a polynomial be? -/
noncomputable def rightB (p : Nat) (l : List Nat) : Bool := decide (Canon p l ∧ IsPr p ∧ p < 2147483648)
noncomputable def fairB (p : Nat) (l : List Nat) (m : Nat) : Bool := decide (l.length ≤ m + 1) && rightB p l
noncomputable def pairB (p : Nat) (l : List Nat) (q : Nat) (l' : List Nat) (m : Nat) : Bool := decide (p = q) && fairB p l m && fairB q l' m
def sameB (p : Nat) (l : List Nat) (q : Nat) (l' : List Nat) : Bool := decide (p = q ∧ l = l')
theorem errP_yes {p : Nat} (h : IsPr p) (h2 : p < 2147483648) : errP p = 0 := if_pos ⟨h, h2⟩
theorem errP_no {p : Nat} (h : ¬ (IsPr p ∧ p < 2147483648)) : errP p = 6 := if_neg h
theorem canon_iff {p : Nat} {l : List Nat} {n : Nat} (hn : l.length = n) (hp : 0 < p) : Canon p l ↔ (∀ i, i < n → nth l i < p) ∧ (n = 0 ∨ nth l (n - 1) ≠ 0) := by
  constructor
  · intro h
    haveI : NeZero p := ⟨by omega⟩
    refine ⟨fun i _ => h.getD i, ?_⟩
    rcases h.top with h1 | h1
    · left; rw [← hn, h1]; rfl
    · right; rw [← hn]; exact h1
  · rintro ⟨h1, h2⟩
    refine ⟨fun c hc => ?_, ?_⟩
    · obtain ⟨i, hi, rfl⟩ := List.mem_iff_getElem.1 hc
      have := h1 i (by omega)
      rwa [nth, List.getD_eq_getElem?_getD, List.getElem?_eq_getElem hi] at this
    · rcases h2 with h2 | h2
      · left; exact List.length_eq_zero_iff.1 (by omega)
      · right; rw [hn]; exact h2
theorem rightB_true {p : Nat} {l : List Nat} : rightB p l = true ↔ Canon p l ∧ IsPr p ∧ p < 2147483648 := by simp [rightB]
end Alg
namespace Go.Proofs.YtcefhnmhcapccaaDoor
open Go.RowKit
theorem beq_eq {a b : Nat} (h : a = b) : ((a : Int) == (b : Int)) = true := by simp [h]
set_option maxHeartbeats 400000 in
theorem ref_Field (p : Nat) (w : World) (hp : p < 4294967296) :
    Calls Tryd.prog 46 #[.int .u32 p] w fun e w' => e = .returned (.int .i64 (errP p)) ∧ w' = w := by
  by_cases h2 : p < 2
  · rw [errP_no (fun h => by have := h.1.1; omega)]
    go_enter Tryd.func46, Tryd.ntmps46
    go_wp2
    go_ret
    exact ⟨rfl, rfl⟩
  · by_cases h3 : 2147483647 < p
    · rw [errP_no (fun h => by have := h.2; omega)]
      go_enter Tryd.func46, Tryd.ntmps46
      go_wp2
      go_ret
      exact ⟨rfl, rfl⟩
    · go_enter Tryd.func46, Tryd.ntmps46
      go_wp2
      go_loop [3] (fun v => ∃ d : Nat, v = .int .u32 d ∧ 2 ≤ d ∧ d ≤ 46342 ∧ Hid (∀ c, 2 ≤ c → c < d → c * c ≤ p → p % c ≠ 0)) (fun v => 46343 - (intOf v).toNat)
      case atStart => exact ⟨2, rfl, Nat.le_refl _, by omega, fun c h1 h2 => by omega⟩
      case round =>
        obtain ⟨d, rfl, hd2, hd, hall⟩ := hrel
        by_cases h4 : d ≤ 46341
        · have hdd : (d : Int) * (d : Int) ≤ 2147488281 := by
            have : d * d ≤ 46341 * 46341 := Nat.mul_le_mul h4 h4
            have e : (d : Int) * (d : Int) = ((d * d : Nat) : Int) := by rw [Int.natCast_mul]
            omega
          have hdd0 : 0 ≤ (d : Int) * (d : Int) := by
            have e : (d : Int) * (d : Int) = ((d * d : Nat) : Int) := by rw [Int.natCast_mul]
            omega
          by_cases h5 : d * d ≤ p
          · have h5' : (d : Int) * (d : Int) ≤ (p : Int) := by
              have e : (d : Int) * (d : Int) = ((d * d : Nat) : Int) := by rw [Int.natCast_mul]
              omega
            have h5n := Alg.hid h5
            clear h5
            by_cases h6 : p % d = 0
            · have HE : Hid (errP p = 6) := errP_no (fun h => ((isPr_iff p).1 h.1).2 d hd2 h5n.out h6)
              have h6' : (((p : Int) % (d : Int)) == 0) = true := by
                have : (p : Int) % (d : Int) = ((p % d : Nat) : Int) := by simp
                rw [this, h6]; rfl
              clear h6
              go_wp2
              go_ret
              exact ⟨ret_int HE.out.symm, rfl⟩
            · have h6' : (((p : Int) % (d : Int)) == 0) = false := by
                have : (p : Int) % (d : Int) = ((p % d : Nat) : Int) := by simp
                rw [this]; simp; omega
              have H6 := Alg.hid h6
              clear h6
              go_wp2
              go_round
              case rel =>
                refine ⟨d + 1, by go_num, by omega, by omega, fun c h1 h2 h3 => ?_⟩
                by_cases e : c = d
                · rw [e]; exact H6.out
                · exact hall.out c h1 (by omega) h3
              case measure => simp [intOf]; omega
          · have h5' : ¬ (d : Int) * (d : Int) ≤ (p : Int) := by
              have e : (d : Int) * (d : Int) = ((d * d : Nat) : Int) := by rw [Int.natCast_mul]
              omega
            have HE : Hid (errP p = 0) := errP_yes ((isPr_iff p).2 ⟨by omega, fun c h1 h6 => hall.out c h1 (by
              rcases Nat.lt_or_ge c d with h7 | h7
              · exact h7
              · have := Nat.mul_le_mul h7 h7; omega) h6⟩) (by omega)
            clear h5
            go_wp2
            go_ret
            exact ⟨ret_int HE.out.symm, rfl⟩
        · have HE : Hid (errP p = 0) := errP_yes ((isPr_iff p).2 ⟨by omega, fun c h1 h6 => hall.out c h1 (by
              rcases Nat.lt_or_ge c d with h7 | h7
              · exact h7
              · have h8 : 46342 ≤ c := by omega
                have := Nat.mul_le_mul h8 h8; omega) h6⟩) (by omega)
          go_wp2
          go_ret
          exact ⟨ret_int HE.out.symm, rfl⟩
theorem ref_Right1 (p : Nat) (a : Option Addr) (n cap : Nat) (l : List Nat) (w : World) (h : Sl w a n cap l) (hp : p < 4294967296) (hn : n ≤ 1099511627776) (bv : Bool)
    (hres : (n = 0 ∨ nth l (n - 1) ≠ 0) → Hid ((errP p = 0 ∧ bv = true) ∨ (errP p = 6 ∧ bv = false))) (hres2 : ¬ (n = 0 ∨ nth l (n - 1) ≠ 0) → bv = false) (hall : ∀ i, i < n → nth l i < p) :
    Calls Tryd.prog 36 #[.agg #[.int .u32 p, .slice a n cap]] w fun e w' => e = .returned (.bool bv) ∧ Below w.heap.size w w' := by
  have hbx := boxes1 w #[.int .u32 (p : Int), .slice a n cap] 25
  have HA := Alg.hid hall
  have HR := Alg.hid hres
  have HR2 := Alg.hid hres2
  clear hall hres hres2
  go_enter Tryd.func36, Tryd.ntmps36
  go_wp2
  go_loopw [3] (fun i wr => ∃ k : Nat, i = .int .i64 k ∧ k ≤ n ∧ Boxes w wr [#[.int .u32 (p : Int), .slice a n cap]]) (fun i _ => n - (intOf i).toNat)
  case atStart => exact ⟨0, rfl, Nat.zero_le _, hbx⟩
  case round =>
    clear hbx
    obtain ⟨k, rfl, hk, hbx⟩ := hrel
    have d0 : wr.cell? ⟨w.heap.size, 0, none⟩ = some (.int .u32 (p : Int)) := hbx.cell' 0 0 _ _ rfl rfl
    have d1 : wr.cell? ⟨w.heap.size, 1, none⟩ = some (.slice a n cap) := hbx.cell' 0 1 _ _ rfl rfl
    by_cases hkn : k < n
    · rcases h.rd with h0 | ⟨b, off, rfl, hc⟩
      · omega
      have c1 : wr.cell? ⟨b, off + k, none⟩ = some (.int .u32 (nth l k : Nat)) := (hbx.below.cell (p := ⟨b, off + k, none⟩) (cell_lt (hc k hkn))).trans (hc k hkn)
      have hlt := HA.out k hkn
      have s1 : (0 : Int) ≤ (k : Int) := by omega
      have s2 : (k : Int) < (n : Int) := by omega
      have s3 : ¬ ((p : Int) ≤ (nth l k : Int)) := by omega
      clear hc
      go_wp2
      go_quiet (fail)
      go_wp2
      go_roundw
      case rel => exact ⟨k + 1, by go_num, by omega, hbx.drewN _⟩
      case measure => simp [intOf]; omega
    · have ek : k = n := by omega
      subst ek
      by_cases hn0 : k = 0
      · have hr1 := HR.out (Or.inl hn0)
        subst hn0
        go_wp2_with fail
        refine (ref_Field p _ hp).mono ?_
        rintro e w' ⟨rfl, rfl⟩
        rcases hr1.out with ⟨he, hb⟩ | ⟨he, hb⟩
        all_goals
          rw [he]
          have HB := Alg.hid hb
          clear he hb
          go_wp2
          go_ret
          exact ⟨by rw [HB.out]; rfl, hbx.below⟩
      · rcases h.rd with h0 | ⟨b, off, rfl, hc⟩
        · omega
        have hkm : k - 1 < k := by omega
        have c1 : wr.cell? ⟨b, off + (k - 1), none⟩ = some (.int .u32 (nth l (k - 1) : Nat)) := (hbx.below.cell (p := ⟨b, off + (k - 1), none⟩) (cell_lt (hc (k - 1) hkm))).trans (hc (k - 1) hkm)
        clear hc
        have hkb : ((k : Int) == 0) = false := by simp; omega
        by_cases hz : nth l (k - 1) = 0
        · have hzb : ((nth l (k - 1) : Int) != 0) = false := by simp [hz]
          have HB : Hid (bv = false) := HR2.out (fun h2 => h2.elim hn0 (fun h3 => h3 hz))
          clear hz
          go_wp2
          go_ret
          exact ⟨by rw [HB.out]; rfl, hbx.below⟩
        · have hzb : ((nth l (k - 1) : Int) != 0) = true := by simp [hz]
          have hr1 := HR.out (Or.inr hz)
          go_wp2_with fail
          refine (ref_Field p _ hp).mono ?_
          rintro e w' ⟨rfl, rfl⟩
          rcases hr1.out with ⟨he, hb⟩ | ⟨he, hb⟩
          all_goals
            rw [he]
            have HB := Alg.hid hb
            clear he hb
            go_wp2
            go_ret
            exact ⟨by rw [HB.out]; rfl, hbx.below⟩
theorem ref_Right0 (p : Nat) (a : Option Addr) (n cap : Nat) (l : List Nat) (w : World) (h : Sl w a n cap l) (hn : n ≤ 1099511627776) (j : Nat) (hj : j < n) (hpj : p ≤ nth l j) (hmin : ∀ i, i < j → nth l i < p) :
    Calls Tryd.prog 36 #[.agg #[.int .u32 p, .slice a n cap]] w fun e w' => e = .returned (.bool false) ∧ Below w.heap.size w w' := by
  have hbx := boxes1 w #[.int .u32 (p : Int), .slice a n cap] 25
  have HA := Alg.hid hmin
  clear hmin
  go_enter Tryd.func36, Tryd.ntmps36
  go_wp2
  go_loopw [3] (fun i wr => ∃ k : Nat, i = .int .i64 k ∧ k ≤ j ∧ Boxes w wr [#[.int .u32 (p : Int), .slice a n cap]]) (fun i _ => n - (intOf i).toNat)
  case atStart => exact ⟨0, rfl, Nat.zero_le _, hbx⟩
  case round =>
    clear hbx
    obtain ⟨k, rfl, hk, hbx⟩ := hrel
    have d0 : wr.cell? ⟨w.heap.size, 0, none⟩ = some (.int .u32 (p : Int)) := hbx.cell' 0 0 _ _ rfl rfl
    have d1 : wr.cell? ⟨w.heap.size, 1, none⟩ = some (.slice a n cap) := hbx.cell' 0 1 _ _ rfl rfl
    have hkn : k < n := by omega
    rcases h.rd with h0 | ⟨b, off, rfl, hc⟩
    · omega
    have c1 : wr.cell? ⟨b, off + k, none⟩ = some (.int .u32 (nth l k : Nat)) := (hbx.below.cell (p := ⟨b, off + k, none⟩) (cell_lt (hc k hkn))).trans (hc k hkn)
    have s1 : (0 : Int) ≤ (k : Int) := by omega
    have s2 : (k : Int) < (n : Int) := by omega
    clear hc
    by_cases ek : k = j
    · subst ek
      have s3 : ((p : Int) ≤ (nth l k : Int)) := by omega
      go_wp2
      go_quiet (fail)
      go_wp2
      go_ret
      exact ⟨rfl, (hbx.drewN _).below⟩
    · have hlt := HA.out k (by omega)
      have s3 : ¬ ((p : Int) ≤ (nth l k : Int)) := by omega
      go_wp2
      go_quiet (fail)
      go_wp2
      go_roundw
      case rel => exact ⟨k + 1, by go_num, by omega, hbx.drewN _⟩
      case measure => simp [intOf]; omega
/-- the least place at which something fails -/
theorem least (P : Nat → Prop) : ∀ n, (∀ i, i < n → P i) ∨ ∃ j, j < n ∧ ¬ P j ∧ ∀ i, i < j → P i
  | 0 => Or.inl fun i h => by omega
  | n + 1 => by
    rcases least P n with h | ⟨j, h1, h2, h3⟩
    · by_cases hn : P n
      · left; intro i hi; by_cases e : i = n
        · rw [e]; exact hn
        · exact h i (by omega)
      · exact Or.inr ⟨n, by omega, hn, h⟩
    · exact Or.inr ⟨j, by omega, h2, h3⟩
theorem ref_Right (p : Nat) (a : Option Addr) (n cap : Nat) (l : List Nat) (w : World) (h : Sl w a n cap l) (hp : p < 4294967296) (hn : n ≤ 1099511627776) :
    Calls Tryd.prog 36 #[.agg #[.int .u32 p, .slice a n cap]] w fun e w' => e = .returned (.bool (rightB p l)) ∧ Below w.heap.size w w' := by
  rcases least (fun i => nth l i < p) n with hall | ⟨j, h1, h2, h3⟩
  · refine ref_Right1 p a n cap l w h hp hn _ ?_ ?_ hall
    · intro htop
      by_cases hP : IsPr p ∧ p < 2147483648
      · left
        refine ⟨errP_yes hP.1 hP.2, rightB_true.2 ⟨(canon_iff h.len (by have := hP.1.1; omega)).2 ⟨hall, htop⟩, hP⟩⟩
      · right
        refine ⟨errP_no hP, ?_⟩
        cases hb : rightB p l with
        | false => rfl
        | true => exact absurd (rightB_true.1 hb).2 hP
    · intro htop
      cases hb : rightB p l with
      | false => rfl
      | true =>
        have h4 := rightB_true.1 hb
        exact absurd ((canon_iff h.len (by have := h4.2.1.1; omega)).1 h4.1).2 htop
  · have hb : rightB p l = false := by
      cases hb : rightB p l with
      | false => rfl
      | true =>
        have h4 := rightB_true.1 hb
        exact absurd (((canon_iff h.len (by have := h4.2.1.1; omega)).1 h4.1).1 j h1) h2
    rw [hb]
    exact ref_Right0 p a n cap l w h hn j h1 (by omega) h3
end Go.Proofs.YtcefhnmhcapccaaDoor
