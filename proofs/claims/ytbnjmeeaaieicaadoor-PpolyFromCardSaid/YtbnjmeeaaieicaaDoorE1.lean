/- Contracts of the reference's Field, Right, Fair, Pair, Same. Contracts of the reference's Fair, Pair, Same. Contract of the reference's Same. Contracts of ppoly.Right and what it hands to the library, given modp.Field's. Contract of ppoly.Right, given modp.Field's at this prime. -/
import Derived.Test.YtbnjmeeaaieicaaDoorE2
import Derived.Test.YtbnjmeeaaieicaaDoorP1
section
open Alg
namespace Alg
open Classical in
/-- what Field answers -/
noncomputable def errP (p : Nat) : Int := if IsPr p ∧ p < 2147483648 then 0 else 6
open Classical in
/-- may a polynomial be? -/
noncomputable def rightB (p : Nat) (l : List Nat) : Bool := decide (Canon p l ∧ IsPr p ∧ p < 2147483648)
noncomputable def fairB (p : Nat) (l : List Nat) (m : Nat) : Bool := decide (l.length ≤ m + 1) && rightB p l
noncomputable def pairB (p : Nat) (l : List Nat) (q : Nat) (l' : List Nat) (m : Nat) : Bool := decide (p = q) && fairB p l m && fairB q l' m
def sameB (p : Nat) (l : List Nat) (q : Nat) (l' : List Nat) : Bool := decide (p = q ∧ l = l')
theorem errP_yes {p : Nat} (h : IsPr p) (h2 : p < 2147483648) : errP p = 0 := if_pos ⟨h, h2⟩
theorem errP_no {p : Nat} (h : ¬ (IsPr p ∧ p < 2147483648)) : errP p = 6 := if_neg h
theorem canon_iff {p : Nat} {l : List Nat} {n : Nat} (hn : l.length = n) (hp : 0 < p) : Canon p l ↔ (∀ i, i < n → nth l i < p) ∧ (n = 0 ∨ nth l (n - 1) ≠ 0) := by
  constructor
  · intro h
    haveI : NeZero p := ⟨by omega⟩
    refine ⟨fun i _ => h.getD i, ?_⟩
    rcases h.top with h1 | h1
    · left; rw [← hn, h1]; rfl
    · right; rw [← hn]; exact h1
  · rintro ⟨h1, h2⟩
    refine ⟨fun c hc => ?_, ?_⟩
    · obtain ⟨i, hi, rfl⟩ := List.mem_iff_getElem.1 hc
      have := h1 i (by omega)
      rwa [nth, List.getD_eq_getElem?_getD, List.getElem?_eq_getElem hi] at this
    · rcases h2 with h2 | h2
      · left; exact List.length_eq_zero_iff.1 (by omega)
      · right; rw [hn]; exact h2
theorem rightB_true {p : Nat} {l : List Nat} : rightB p l = true ↔ Canon p l ∧ IsPr p ∧ p < 2147483648 := by simp [rightB]
end Alg
namespace Go.Proofs.YtbnjmeeaaieicaaDoor
open Go.RowKit
theorem beq_eq {a b : Nat} (h : a = b) : ((a : Int) == (b : Int)) = true := by simp [h]
set_option maxHeartbeats 400000 in
theorem ref_Field (p : Nat) (w : World) (hp : p < 4294967296) :
    Calls Tryd.prog 16 #[.int .u32 p] w fun e w' => e = .returned (.int .i64 (errP p)) ∧ w' = w := by
  by_cases h2 : p < 2
  · rw [errP_no (fun h => by have := h.1.1; omega)]
    go_enter Tryd.func16, Tryd.ntmps16
    go_wp2
    go_ret
    exact ⟨rfl, rfl⟩
  · by_cases h3 : 2147483647 < p
    · rw [errP_no (fun h => by have := h.2; omega)]
      go_enter Tryd.func16, Tryd.ntmps16
      go_wp2
      go_ret
      exact ⟨rfl, rfl⟩
    · go_enter Tryd.func16, Tryd.ntmps16
      go_wp2
      go_loop [3] (fun v => ∃ d : Nat, v = .int .u32 d ∧ 2 ≤ d ∧ d ≤ 46342 ∧ Hid (∀ c, 2 ≤ c → c < d → c * c ≤ p → p % c ≠ 0)) (fun v => 46343 - (intOf v).toNat)
      case atStart => exact ⟨2, rfl, Nat.le_refl _, by omega, fun c h1 h2 => by omega⟩
      case round =>
        obtain ⟨d, rfl, hd2, hd, hall⟩ := hrel
        by_cases h4 : d ≤ 46341
        · have hdd : (d : Int) * (d : Int) ≤ 2147488281 := by
            have : d * d ≤ 46341 * 46341 := Nat.mul_le_mul h4 h4
            have e : (d : Int) * (d : Int) = ((d * d : Nat) : Int) := by rw [Int.natCast_mul]
            omega
          have hdd0 : 0 ≤ (d : Int) * (d : Int) := by
            have e : (d : Int) * (d : Int) = ((d * d : Nat) : Int) := by rw [Int.natCast_mul]
            omega
          by_cases h5 : d * d ≤ p
          · have h5' : (d : Int) * (d : Int) ≤ (p : Int) := by
              have e : (d : Int) * (d : Int) = ((d * d : Nat) : Int) := by rw [Int.natCast_mul]
              omega
            have h5n := Alg.hid h5
            clear h5
            by_cases h6 : p % d = 0
            · have HE : Hid (errP p = 6) := errP_no (fun h => ((isPr_iff p).1 h.1).2 d hd2 h5n.out h6)
              have h6' : (((p : Int) % (d : Int)) == 0) = true := by
                have : (p : Int) % (d : Int) = ((p % d : Nat) : Int) := by simp
                rw [this, h6]; rfl
              clear h6
              go_wp2
              go_ret
              exact ⟨ret_int HE.out.symm, rfl⟩
            · have h6' : (((p : Int) % (d : Int)) == 0) = false := by
                have : (p : Int) % (d : Int) = ((p % d : Nat) : Int) := by simp
                rw [this]; simp; omega
              have H6 := Alg.hid h6
              clear h6
              go_wp2
              go_round
              case rel =>
                refine ⟨d + 1, by go_num, by omega, by omega, fun c h1 h2 h3 => ?_⟩
                by_cases e : c = d
                · rw [e]; exact H6.out
                · exact hall.out c h1 (by omega) h3
              case measure => simp [intOf]; omega
          · have h5' : ¬ (d : Int) * (d : Int) ≤ (p : Int) := by
              have e : (d : Int) * (d : Int) = ((d * d : Nat) : Int) := by rw [Int.natCast_mul]
              omega
            have HE : Hid (errP p = 0) := errP_yes ((isPr_iff p).2 ⟨by omega, fun c h1 h6 => hall.out c h1 (by
              rcases Nat.lt_or_ge c d with h7 | h7
              · exact h7
              · have := Nat.mul_le_mul h7 h7; omega) h6⟩) (by omega)
            clear h5
            go_wp2
            go_ret
            exact ⟨ret_int HE.out.symm, rfl⟩
        · have HE : Hid (errP p = 0) := errP_yes ((isPr_iff p).2 ⟨by omega, fun c h1 h6 => hall.out c h1 (by
              rcases Nat.lt_or_ge c d with h7 | h7
              · exact h7
              · have h8 : 46342 ≤ c := by omega
                have := Nat.mul_le_mul h8 h8; omega) h6⟩) (by omega)
          go_wp2
          go_ret
          exact ⟨ret_int HE.out.symm, rfl⟩
theorem ref_Right1 (p : Nat) (a : Option Addr) (n cap : Nat) (l : List Nat) (w : World) (h : Sl w a n cap l) (hp : p < 4294967296) (hn : n ≤ 1099511627776) (bv : Bool)
    (hres : (n = 0 ∨ nth l (n - 1) ≠ 0) → Hid ((errP p = 0 ∧ bv = true) ∨ (errP p = 6 ∧ bv = false))) (hres2 : ¬ (n = 0 ∨ nth l (n - 1) ≠ 0) → bv = false) (hall : ∀ i, i < n → nth l i < p) :
    Calls Tryd.prog 101 #[.agg #[.int .u32 p, .slice a n cap]] w fun e w' => e = .returned (.bool bv) ∧ Below w.heap.size w w' := by
  have hbx := boxes1 w #[.int .u32 (p : Int), .slice a n cap] 47
  have HA := Alg.hid hall
  have HR := Alg.hid hres
  have HR2 := Alg.hid hres2
  clear hall hres hres2
  go_enter Tryd.func101, Tryd.ntmps101
  go_wp2
  go_loopw [3] (fun i wr => ∃ k : Nat, i = .int .i64 k ∧ k ≤ n ∧ Boxes w wr [#[.int .u32 (p : Int), .slice a n cap]]) (fun i _ => n - (intOf i).toNat)
  case atStart => exact ⟨0, rfl, Nat.zero_le _, hbx⟩
  case round =>
    clear hbx
    obtain ⟨k, rfl, hk, hbx⟩ := hrel
    have d0 : wr.cell? ⟨w.heap.size, 0, none⟩ = some (.int .u32 (p : Int)) := hbx.cell' 0 0 _ _ rfl rfl
    have d1 : wr.cell? ⟨w.heap.size, 1, none⟩ = some (.slice a n cap) := hbx.cell' 0 1 _ _ rfl rfl
    by_cases hkn : k < n
    · rcases h.rd with h0 | ⟨b, off, rfl, hc⟩
      · omega
      have c1 : wr.cell? ⟨b, off + k, none⟩ = some (.int .u32 (nth l k : Nat)) := (hbx.below.cell (p := ⟨b, off + k, none⟩) (cell_lt (hc k hkn))).trans (hc k hkn)
      have hlt := HA.out k hkn
      have s1 : (0 : Int) ≤ (k : Int) := by omega
      have s2 : (k : Int) < (n : Int) := by omega
      have s3 : ¬ ((p : Int) ≤ (nth l k : Int)) := by omega
      clear hc
      go_wp2
      go_quiet (fail)
      go_wp2
      go_roundw
      case rel => exact ⟨k + 1, by go_num, by omega, hbx.drewN _⟩
      case measure => simp [intOf]; omega
    · have ek : k = n := by omega
      subst ek
      by_cases hn0 : k = 0
      · have hr1 := HR.out (Or.inl hn0)
        subst hn0
        go_wp2_with fail
        refine (ref_Field p _ hp).mono ?_
        rintro e w' ⟨rfl, rfl⟩
        rcases hr1.out with ⟨he, hb⟩ | ⟨he, hb⟩
        all_goals
          rw [he]
          have HB := Alg.hid hb
          clear he hb
          go_wp2
          go_ret
          exact ⟨by rw [HB.out]; rfl, hbx.below⟩
      · rcases h.rd with h0 | ⟨b, off, rfl, hc⟩
        · omega
        have hkm : k - 1 < k := by omega
        have c1 : wr.cell? ⟨b, off + (k - 1), none⟩ = some (.int .u32 (nth l (k - 1) : Nat)) := (hbx.below.cell (p := ⟨b, off + (k - 1), none⟩) (cell_lt (hc (k - 1) hkm))).trans (hc (k - 1) hkm)
        clear hc
        have hkb : ((k : Int) == 0) = false := by simp; omega
        by_cases hz : nth l (k - 1) = 0
        · have hzb : ((nth l (k - 1) : Int) != 0) = false := by simp [hz]
          have HB : Hid (bv = false) := HR2.out (fun h2 => h2.elim hn0 (fun h3 => h3 hz))
          clear hz
          go_wp2
          go_ret
          exact ⟨by rw [HB.out]; rfl, hbx.below⟩
        · have hzb : ((nth l (k - 1) : Int) != 0) = true := by simp [hz]
          have hr1 := HR.out (Or.inr hz)
          go_wp2_with fail
          refine (ref_Field p _ hp).mono ?_
          rintro e w' ⟨rfl, rfl⟩
          rcases hr1.out with ⟨he, hb⟩ | ⟨he, hb⟩
          all_goals
            rw [he]
            have HB := Alg.hid hb
            clear he hb
            go_wp2
            go_ret
            exact ⟨by rw [HB.out]; rfl, hbx.below⟩
theorem ref_Right0 (p : Nat) (a : Option Addr) (n cap : Nat) (l : List Nat) (w : World) (h : Sl w a n cap l) (hn : n ≤ 1099511627776) (j : Nat) (hj : j < n) (hpj : p ≤ nth l j) (hmin : ∀ i, i < j → nth l i < p) :
    Calls Tryd.prog 101 #[.agg #[.int .u32 p, .slice a n cap]] w fun e w' => e = .returned (.bool false) ∧ Below w.heap.size w w' := by
  have hbx := boxes1 w #[.int .u32 (p : Int), .slice a n cap] 47
  have HA := Alg.hid hmin
  clear hmin
  go_enter Tryd.func101, Tryd.ntmps101
  go_wp2
  go_loopw [3] (fun i wr => ∃ k : Nat, i = .int .i64 k ∧ k ≤ j ∧ Boxes w wr [#[.int .u32 (p : Int), .slice a n cap]]) (fun i _ => n - (intOf i).toNat)
  case atStart => exact ⟨0, rfl, Nat.zero_le _, hbx⟩
  case round =>
    clear hbx
    obtain ⟨k, rfl, hk, hbx⟩ := hrel
    have d0 : wr.cell? ⟨w.heap.size, 0, none⟩ = some (.int .u32 (p : Int)) := hbx.cell' 0 0 _ _ rfl rfl
    have d1 : wr.cell? ⟨w.heap.size, 1, none⟩ = some (.slice a n cap) := hbx.cell' 0 1 _ _ rfl rfl
    have hkn : k < n := by omega
    rcases h.rd with h0 | ⟨b, off, rfl, hc⟩
    · omega
    have c1 : wr.cell? ⟨b, off + k, none⟩ = some (.int .u32 (nth l k : Nat)) := (hbx.below.cell (p := ⟨b, off + k, none⟩) (cell_lt (hc k hkn))).trans (hc k hkn)
    have s1 : (0 : Int) ≤ (k : Int) := by omega
    have s2 : (k : Int) < (n : Int) := by omega
    clear hc
    by_cases ek : k = j
    · subst ek
      have s3 : ((p : Int) ≤ (nth l k : Int)) := by omega
      go_wp2
      go_quiet (fail)
      go_wp2
      go_ret
      exact ⟨rfl, (hbx.drewN _).below⟩
    · have hlt := HA.out k (by omega)
      have s3 : ¬ ((p : Int) ≤ (nth l k : Int)) := by omega
      go_wp2
      go_quiet (fail)
      go_wp2
      go_roundw
      case rel => exact ⟨k + 1, by go_num, by omega, hbx.drewN _⟩
      case measure => simp [intOf]; omega
/-- the least place at which something fails -/
theorem least (P : Nat → Prop) : ∀ n, (∀ i, i < n → P i) ∨ ∃ j, j < n ∧ ¬ P j ∧ ∀ i, i < j → P i
  | 0 => Or.inl fun i h => by omega
  | n + 1 => by
    rcases least P n with h | ⟨j, h1, h2, h3⟩
    · by_cases hn : P n
      · left; intro i hi; by_cases e : i = n
        · rw [e]; exact hn
        · exact h i (by omega)
      · exact Or.inr ⟨n, by omega, hn, h⟩
    · exact Or.inr ⟨j, by omega, h2, h3⟩
theorem ref_Right (p : Nat) (a : Option Addr) (n cap : Nat) (l : List Nat) (w : World) (h : Sl w a n cap l) (hp : p < 4294967296) (hn : n ≤ 1099511627776) :
    Calls Tryd.prog 101 #[.agg #[.int .u32 p, .slice a n cap]] w fun e w' => e = .returned (.bool (rightB p l)) ∧ Below w.heap.size w w' := by
  rcases least (fun i => nth l i < p) n with hall | ⟨j, h1, h2, h3⟩
  · refine ref_Right1 p a n cap l w h hp hn _ ?_ ?_ hall
    · intro htop
      by_cases hP : IsPr p ∧ p < 2147483648
      · left
        refine ⟨errP_yes hP.1 hP.2, rightB_true.2 ⟨(canon_iff h.len (by have := hP.1.1; omega)).2 ⟨hall, htop⟩, hP⟩⟩
      · right
        refine ⟨errP_no hP, ?_⟩
        cases hb : rightB p l with
        | false => rfl
        | true => exact absurd (rightB_true.1 hb).2 hP
    · intro htop
      cases hb : rightB p l with
      | false => rfl
      | true =>
        have h4 := rightB_true.1 hb
        exact absurd ((canon_iff h.len (by have := h4.2.1.1; omega)).1 h4.1).2 htop
  · have hb : rightB p l = false := by
      cases hb : rightB p l with
      | false => rfl
      | true =>
        have h4 := rightB_true.1 hb
        exact absurd (((canon_iff h.len (by have := h4.2.1.1; omega)).1 h4.1).1 j h1) h2
    rw [hb]
    exact ref_Right0 p a n cap l w h hn j h1 (by omega) h3
end Go.Proofs.YtbnjmeeaaieicaaDoor
end
section
open Alg
namespace Alg
theorem fairB_big {p : Nat} {l : List Nat} {m : Nat} (h : ¬ l.length ≤ m + 1) : fairB p l m = false := by simp [fairB, h]
theorem fairB_small {p : Nat} {l : List Nat} {m : Nat} (h : l.length ≤ m + 1) : fairB p l m = rightB p l := by simp [fairB, h]
theorem pairB_ne {p q : Nat} {l l' : List Nat} {m : Nat} (h : p ≠ q) : pairB p l q l' m = false := by simp [pairB, h]
theorem pairB_no {p : Nat} {l l' : List Nat} {m : Nat} (h : fairB p l m = false) : pairB p l p l' m = false := by simp [pairB, h]
theorem pairB_yes {p : Nat} {l l' : List Nat} {m : Nat} (h : fairB p l m = true) : pairB p l p l' m = fairB p l' m := by simp [pairB, h]
theorem sameB_ne {p q : Nat} {l l' : List Nat} (h : p ≠ q) : sameB p l q l' = false := by simp [sameB, h]
theorem sameB_len {p q : Nat} {l l' : List Nat} (h : l.length ≠ l'.length) : sameB p l q l' = false := by
  unfold sameB; simp only [decide_eq_false_iff_not]; rintro ⟨_, rfl⟩; exact h rfl
theorem sameB_at {p q : Nat} {l l' : List Nat} (j : Nat) (h : nth l j ≠ nth l' j) : sameB p l q l' = false := by
  unfold sameB; simp only [decide_eq_false_iff_not]; rintro ⟨_, rfl⟩; exact h rfl
theorem sameB_all {p : Nat} {l l' : List Nat} {n : Nat} (h1 : l.length = n) (h2 : l'.length = n) (h : ∀ i, i < n → nth l i = nth l' i) : sameB p l p l' = true := by
  have : l = l' := by
    refine List.ext_getElem (by omega) (fun i hi hj => ?_)
    have := h i (by omega)
    rwa [nth, nth, List.getD_eq_getElem?_getD, List.getD_eq_getElem?_getD, List.getElem?_eq_getElem hi, List.getElem?_eq_getElem hj] at this
  simp [sameB, this]
theorem sameB_true {p q : Nat} {l l' : List Nat} : sameB p l q l' = true ↔ p = q ∧ l = l' := by simp [sameB]
end Alg
namespace Go.Proofs.YtbnjmeeaaieicaaDoor
open Go.RowKit
theorem ref_Fair (p : Nat) (a : Option Addr) (n cap : Nat) (l : List Nat) (m : Nat) (w : World) (h : Sl w a n cap l) (hp : p < 4294967296) (hm : m ≤ 1000000) :
    Calls Tryd.prog 63 #[.agg #[.int .u32 p, .slice a n cap], .int .i64 m] w fun e w' => e = .returned (.bool (fairB p l m)) ∧ Below w.heap.size w w' := by
  have hsl := h.len
  have hbx := boxes1 w #[.int .u32 (p : Int), .slice a n cap] 47
  have hb0 := hbx.below
  have h1 := h.mono hb0
  have hs1 := hb0.size
  by_cases hs : n ≤ m + 1
  · have hn : n ≤ 1099511627776 := by omega
    have HB : Hid (fairB p l m = rightB p l) := fairB_small (by omega)
    clear hsl
    go_enter Tryd.func63, Tryd.ntmps63
    go_wp2_with fail
    refine (ref_Right p a n cap l _ h1 hp hn).mono ?_
    rintro e w' ⟨rfl, hb2⟩
    go_wp2
    go_ret
    exact ⟨by rw [HB.out]; rfl, hb0.trans (hb2.mono hs1)⟩
  · have HB : Hid (fairB p l m = false) := fairB_big (by omega)
    clear hsl
    go_enter Tryd.func63, Tryd.ntmps63
    go_wp2
    go_ret
    exact ⟨by rw [HB.out]; rfl, hb0⟩
theorem ref_Pair (p : Nat) (a : Option Addr) (n cap : Nat) (l : List Nat) (q : Nat) (a' : Option Addr) (n' cap' : Nat) (l' : List Nat) (m : Nat) (w : World) (h : Sl w a n cap l) (h' : Sl w a' n' cap' l') (hp : p < 4294967296) (hq : q < 4294967296) (hm : m ≤ 1000000) :
    Calls Tryd.prog 39 #[.agg #[.int .u32 p, .slice a n cap], .agg #[.int .u32 q, .slice a' n' cap'], .int .i64 m] w fun e w' => e = .returned (.bool (pairB p l q l' m)) ∧ Below w.heap.size w w' := by
  have hbx := boxes2 w #[.int .u32 (p : Int), .slice a n cap] #[.int .u32 (q : Int), .slice a' n' cap'] 47 47
  have hb0 := hbx.below
  have hs1 := hb0.size
  have h1 := h.mono hb0
  have h1' := h'.mono hb0
  by_cases e : p = q
  · subst e
    cases hf : fairB p l m with
    | false =>
      have HB : Hid (pairB p l p l' m = false) := pairB_no hf
      go_enter Tryd.func39, Tryd.ntmps39
      go_wp2_with fail
      refine (ref_Fair p a n cap l m _ h1 hp hm).mono ?_
      rw [hf]
      rintro e w' ⟨rfl, hb2⟩
      go_wp2
      go_ret
      exact ⟨by rw [HB.out]; rfl, hb0.trans (hb2.mono hs1)⟩
    | true =>
      have HB : Hid (pairB p l p l' m = fairB p l' m) := pairB_yes hf
      go_enter Tryd.func39, Tryd.ntmps39
      go_wp2_with fail
      refine (ref_Fair p a n cap l m _ h1 hp hm).mono ?_
      rw [hf]
      rintro e w' ⟨rfl, hb2⟩
      have hb3 := hb0.trans (hb2.mono hs1)
      have hbx2 := hbx.mono hb2
      have d0 : w'.cell? ⟨w.heap.size + 1, 0, none⟩ = some (.int .u32 (p : Int)) := hbx2.cell' 1 0 _ _ rfl rfl
      have d1 : w'.cell? ⟨w.heap.size + 1, 1, none⟩ = some (.slice a' n' cap') := hbx2.cell' 1 1 _ _ rfl rfl
      have h2' := h1'.mono hb2
      go_wp2_with fail
      refine (ref_Fair p a' n' cap' l' m _ h2' hq hm).mono ?_
      rintro e w' ⟨rfl, hb4⟩
      go_wp2
      go_ret
      exact ⟨by rw [HB.out]; rfl, hb3.trans (hb4.mono hbx2.below.size)⟩
  · have HB : Hid (pairB p l q l' m = false) := pairB_ne e
    have e' : ((p : Int) == (q : Int)) = false := by simp; omega
    clear e
    go_enter Tryd.func39, Tryd.ntmps39
    go_wp2
    go_ret
    exact ⟨by rw [HB.out]; rfl, hb0⟩
end Go.Proofs.YtbnjmeeaaieicaaDoor
end
section
open Alg
namespace Go.Proofs.YtbnjmeeaaieicaaDoor
open Go.RowKit
theorem ref_Same0 (p : Nat) (a : Option Addr) (n cap : Nat) (l : List Nat) (a' : Option Addr) (cap' : Nat) (l' : List Nat) (w : World) (h : Sl w a n cap l) (h' : Sl w a' n cap' l') (hn : n ≤ 1099511627776) (j : Nat) (bv : Bool) (hj : j ≤ n)
    (hall : ∀ i, i < j → nth l i = nth l' i) (hend : (j = n ∧ bv = true) ∨ (j < n ∧ nth l j ≠ nth l' j ∧ bv = false)) :
    Calls Tryd.prog 42 #[.agg #[.int .u32 p, .slice a n cap], .agg #[.int .u32 p, .slice a' n cap']] w fun e w' => e = .returned (.bool bv) ∧ Below w.heap.size w w' := by
  have hbx := boxes2 w #[.int .u32 (p : Int), .slice a n cap] #[.int .u32 (p : Int), .slice a' n cap'] 47 47
  have HA := Alg.hid hall
  have HE := Alg.hid hend
  clear hall hend
  go_enter Tryd.func42, Tryd.ntmps42
  go_wp2
  go_loopw [5] (fun i wr => ∃ k : Nat, i = .int .i64 k ∧ k ≤ j ∧ Boxes w wr [#[.int .u32 (p : Int), .slice a n cap], #[.int .u32 (p : Int), .slice a' n cap']]) (fun i _ => n - (intOf i).toNat)
  case atStart => exact ⟨0, rfl, Nat.zero_le _, hbx⟩
  case round =>
    clear hbx
    obtain ⟨k, rfl, hk, hbx⟩ := hrel
    have d0 : wr.cell? ⟨w.heap.size, 1, none⟩ = some (.slice a n cap) := hbx.cell' 0 1 _ _ rfl rfl
    have d1 : wr.cell? ⟨w.heap.size + 1, 1, none⟩ = some (.slice a' n cap') := hbx.cell' 1 1 _ _ rfl rfl
    by_cases hkn : k < n
    · rcases h.rd with h0 | ⟨b, off, rfl, hc⟩
      · omega
      rcases h'.rd with h0 | ⟨b', off', rfl, hc'⟩
      · omega
      have c1 : wr.cell? ⟨b, off + k, none⟩ = some (.int .u32 (nth l k : Nat)) := (hbx.below.cell (p := ⟨b, off + k, none⟩) (cell_lt (hc k hkn))).trans (hc k hkn)
      have c2 : wr.cell? ⟨b', off' + k, none⟩ = some (.int .u32 (nth l' k : Nat)) := (hbx.below.cell (p := ⟨b', off' + k, none⟩) (cell_lt (hc' k hkn))).trans (hc' k hkn)
      clear hc hc'
      have s1 : (0 : Int) ≤ (k : Int) := by omega
      have s2 : (k : Int) < (n : Int) := by omega
      by_cases ek : k = j
      · subst ek
        rcases HE.out with ⟨h1, _⟩ | ⟨_, h1, h2⟩
        · omega
        · have s3 : ((nth l k : Int) != (nth l' k : Int)) = true := by simp; omega
          have HB := Alg.hid h2
          clear h1 h2
          go_wp2
          go_quiet (fail)
          go_wp2
          go_ret
          exact ⟨by rw [HB.out]; rfl, (hbx.drewN _).below⟩
      · have s3 : ((nth l k : Int) != (nth l' k : Int)) = false := by simp; have := HA.out k (by omega); omega
        go_wp2
        go_quiet (fail)
        go_wp2
        go_roundw
        case rel => exact ⟨k + 1, by go_num, by omega, hbx.drewN _⟩
        case measure => simp [intOf]; omega
    · rcases HE.out with ⟨_, h1⟩ | ⟨h1, _⟩
      · have HB := Alg.hid h1
        clear h1
        go_wp2
        go_ret
        exact ⟨by rw [HB.out]; rfl, hbx.below⟩
      · omega
theorem ref_Same (p : Nat) (a : Option Addr) (n cap : Nat) (l : List Nat) (q : Nat) (a' : Option Addr) (n' cap' : Nat) (l' : List Nat) (w : World) (h : Sl w a n cap l) (h' : Sl w a' n' cap' l') (hn : n ≤ 1099511627776) :
    Calls Tryd.prog 42 #[.agg #[.int .u32 p, .slice a n cap], .agg #[.int .u32 q, .slice a' n' cap']] w fun e w' => e = .returned (.bool (sameB p l q l')) ∧ Below w.heap.size w w' := by
  by_cases e : p = q
  · subst e
    by_cases e2 : n = n'
    · subst e2
      rcases least (fun i => nth l i = nth l' i) n with hall | ⟨j, h1, h2, h3⟩
      · exact ref_Same0 p a n cap l a' cap' l' w h h' hn n _ (Nat.le_refl _) hall (Or.inl ⟨rfl, sameB_all h.len h'.len hall⟩)
      · exact ref_Same0 p a n cap l a' cap' l' w h h' hn j _ (by omega) h3 (Or.inr ⟨h1, h2, sameB_at j h2⟩)
    · have hbx := boxes2 w #[.int .u32 (p : Int), .slice a n cap] #[.int .u32 (p : Int), .slice a' n' cap'] 47 47
      have HB : Hid (sameB p l p l' = false) := sameB_len (by rw [h.len, h'.len]; exact e2)
      have s1 : ((n : Int) != (n' : Int)) = true := by simp; omega
      clear e2
      go_enter Tryd.func42, Tryd.ntmps42
      go_wp2
      go_ret
      exact ⟨by rw [HB.out]; rfl, hbx.below⟩
  · have hbx := boxes2 w #[.int .u32 (p : Int), .slice a n cap] #[.int .u32 (q : Int), .slice a' n' cap'] 47 47
    have HB : Hid (sameB p l q l' = false) := sameB_ne e
    have s1 : ((p : Int) != (q : Int)) = true := by simp; omega
    clear e
    go_enter Tryd.func42, Tryd.ntmps42
    go_wp2
    go_ret
    exact ⟨by rw [HB.out]; rfl, hbx.below⟩
end Go.Proofs.YtbnjmeeaaieicaaDoor
end
section
open Alg Go Go.RowKit
namespace Go.Proofs.YtbnjmeeaaieicaaDoor
open Go.RowKit
theorem Right_c (p c bf : Nat) (w : World) (hc : w.cell? ⟨bf, 0, none⟩ = some (.int .u32 (p : Int))) :
    Calls Tryd.prog 100 #[.int .u32 c, .pointer (some ⟨bf, 0, none⟩)] w fun e w' => e = .returned (.bool (decide (p ≤ c))) ∧ w' = w := by
  by_cases h : p ≤ c
  · have h1 : (p : Int) ≤ (c : Int) := by omega
    have HB : Hid (decide (p ≤ c) = true) := decide_eq_true h
    clear h
    go_enter Tryd.func100, Tryd.ntmps100
    go_wp2
    go_ret
    exact ⟨by rw [HB.out]; rfl, rfl⟩
  · have h1 : ¬ (p : Int) ≤ (c : Int) := by omega
    have HB : Hid (decide (p ≤ c) = false) := decide_eq_false h
    clear h
    go_enter Tryd.func100, Tryd.ntmps100
    go_wp2
    go_ret
    exact ⟨by rw [HB.out]; rfl, rfl⟩
theorem IndexFunc0 (p bf : Nat) (a : Option Addr) (n cap : Nat) (l : List Nat) (w : World) (hc : w.cell? ⟨bf, 0, none⟩ = some (.int .u32 (p : Int))) (h : Sl w a n cap l) (hn : n ≤ 1099511627776) (j : Nat) (r : Int) (hj : j ≤ n)
    (hall : ∀ i, i < j → nth l i < p) (hend : (j = n ∧ r = -1) ∨ (j < n ∧ p ≤ nth l j ∧ r = j)) :
    Calls Tryd.prog 120 #[.slice a n cap, .func (.func 100) #[] #[.pointer (some ⟨bf, 0, none⟩)]] w fun e w' => e = .returned (.int .i64 r) ∧ w' = w := by
  have HA := Alg.hid hall
  have HE := Alg.hid hend
  clear hall hend
  go_enter Tryd.func120, Tryd.ntmps120
  go_wp2
  go_loop [8] (fun v => ∃ k : Nat, v = .int .i64 k ∧ k ≤ j) (fun v => n - (intOf v).toNat)
  case atStart => exact ⟨0, rfl, Nat.zero_le _⟩
  case round =>
    obtain ⟨k, rfl, hk⟩ := hrel
    by_cases hkn : k < n
    · rcases h.rd with h0 | ⟨b, off, rfl, hcl⟩
      · omega
      have c1 := hcl k hkn
      have hlt := h.lt k
      clear hcl
      by_cases ek : k = j
      · subst ek
        rcases HE.out with ⟨h1, _⟩ | ⟨_, h1, h2⟩
        · omega
        · have HD : Hid (decide (p ≤ nth l k) = true) := decide_eq_true h1
          have HR := Alg.hid h2
          clear h1 h2
          go_wp2_with fail
          refine (Right_c p (nth l k) bf _ hc).mono ?_
          rintro e w' ⟨rfl, rfl⟩
          rw [HD.out]
          go_wp2
          go_ret
          exact ⟨ret_int HR.out.symm, rfl⟩
      · have HD : Hid (decide (p ≤ nth l k) = false) := decide_eq_false (by have := HA.out k (by omega); omega)
        go_wp2_with fail
        refine (Right_c p (nth l k) bf _ hc).mono ?_
        rintro e w' ⟨rfl, rfl⟩
        rw [HD.out]
        go_wp2
        go_round
        case rel => exact ⟨k + 1, by go_num, by omega⟩
        case measure => simp [intOf]; omega
    · rcases HE.out with ⟨_, h1⟩ | ⟨h1, _⟩
      · have HR := Alg.hid h1
        clear h1
        go_wp2
        go_ret
        exact ⟨ret_int HR.out.symm, rfl⟩
      · omega
theorem ContainsFunc0 (p bf : Nat) (a : Option Addr) (n cap : Nat) (l : List Nat) (w : World) (hc : w.cell? ⟨bf, 0, none⟩ = some (.int .u32 (p : Int))) (h : Sl w a n cap l) (hn : n ≤ 1099511627776) (bv : Bool)
    (hb : (bv = false ∧ ∀ i, i < n → nth l i < p) ∨ (bv = true ∧ ∃ j, j < n ∧ p ≤ nth l j)) :
    Calls Tryd.prog 99 #[.slice a n cap, .func (.func 100) #[] #[.pointer (some ⟨bf, 0, none⟩)]] w fun e w' => e = .returned (.bool bv) ∧ w' = w := by
  rcases hb with ⟨rfl, hall⟩ | ⟨rfl, j0, hj0, hp0⟩
  · go_enter Tryd.func99, Tryd.ntmps99
    go_wp2_with fail
    refine (IndexFunc0 p bf a n cap l _ hc h hn n (-1) (Nat.le_refl _) hall (Or.inl ⟨rfl, rfl⟩)).mono ?_
    rintro e w' ⟨rfl, rfl⟩
    go_wp2
    go_ret
    exact ⟨rfl, rfl⟩
  · rcases least (fun i => nth l i < p) n with hall | ⟨j, h1, h2, h3⟩
    · have := hall j0 hj0; omega
    · have hj : (0 : Int) ≤ (j : Int) := by omega
      go_enter Tryd.func99, Tryd.ntmps99
      go_wp2_with fail
      refine (IndexFunc0 p bf a n cap l _ hc h hn j j (by omega) h3 (Or.inr ⟨h1, by omega, rfl⟩)).mono ?_
      rintro e w' ⟨rfl, rfl⟩
      go_wp2
      go_ret
      exact ⟨rfl, rfl⟩
end Go.Proofs.YtbnjmeeaaieicaaDoor
end
section
open Alg Go Go.RowKit
namespace Go.Proofs.YtbnjmeeaaieicaaDoor
open Go.RowKit
/-- modp.Field answers as the document says, at p, in each world that has grown out of w -/
def FieldC (w : World) (p : Nat) : Prop := ∀ w' : World, Below w.heap.size w w' → Calls Tryd.prog 15 #[.int .u32 (p : Int)] w' fun e w2 => e = .returned (.int .i64 (errP p)) ∧ Below w'.heap.size w' w2
theorem FieldC.mono {w w' : World} {p : Nat} (h : FieldC w p) (hb : Below w.heap.size w w') : FieldC w' p := fun w2 h2 => h w2 (hb.trans (h2.mono hb.size))
theorem ppoly_Right (p : Nat) (a : Option Addr) (n cap : Nat) (l : List Nat) (w : World) (hF : FieldC w p) (h : Sl w a n cap l) (hn : n ≤ 1099511627776) :
    Calls Tryd.prog 62 #[.agg #[.int .u32 p, .slice a n cap]] w fun e w' => e = .returned (.bool (rightB p l)) ∧ Below w.heap.size w w' := by
  have hbx := boxes1 w #[.int .u32 (p : Int), .slice a n cap] 47
  have hl := h.len
  by_cases hP : IsPr p ∧ p < 2147483648
  · have he := errP_yes hP.1 hP.2
    have hpp : 0 < p := by have := hP.1.1; omega
    by_cases hall : ∀ i, i < n → nth l i < p
    · have HA := Alg.hid hall
      by_cases hn0 : n = 0
      · have HB : Hid (rightB p l = true) := rightB_true.2 ⟨(canon_iff hl hpp).2 ⟨hall, Or.inl hn0⟩, hP⟩
        subst hn0
        go_enter Tryd.func62, Tryd.ntmps62
        go_wp2_with fail
        refine (hF _ hbx.below).mono ?_
        rw [he]
        rintro e w1 ⟨rfl, hb1⟩
        have hx1 := hbx.mono hb1
        have h1 := h.mono hx1.below
        have d0 : w1.cell? ⟨w.heap.size, 0, none⟩ = some (.int .u32 (p : Int)) := hx1.cell' 0 0 _ _ rfl rfl
        have d1 : w1.cell? ⟨w.heap.size, 1, none⟩ = some (.slice a 0 cap) := hx1.cell' 0 1 _ _ rfl rfl
        go_wp2_with fail
        refine (ContainsFunc0 p w.heap.size a 0 cap l _ d0 h1 hn false (Or.inl ⟨rfl, HA.out⟩)).mono ?_
        rintro e w' ⟨rfl, rfl⟩
        go_wp2
        go_ret
        exact ⟨by rw [HB.out]; rfl, hx1.below⟩
      · rcases h.rd with h0 | ⟨b, off, rfl, hc⟩
        · omega
        have hkm : n - 1 < n := by omega
        have hcn := hc (n - 1) hkm
        have hnb : ((n : Int) == 0) = false := by simp; omega
        have s1 : (1 : Int) ≤ (n : Int) := by omega
        clear hc
        obtain ⟨bv, hbv⟩ : ∃ bv, bv = rightB p l := ⟨_, rfl⟩
        have hz : ((nth l (n - 1) : Int) != 0) = bv := by
          rw [hbv]
          by_cases hz : nth l (n - 1) = 0
          · have : rightB p l = false := by
              cases hr : rightB p l with
              | false => rfl
              | true => rcases ((canon_iff hl hpp).1 (rightB_true.1 hr).1).2 with h2 | h2 <;> omega
            rw [this]; simp [hz]
          · rw [rightB_true.2 ⟨(canon_iff hl hpp).2 ⟨hall, Or.inr hz⟩, hP⟩]; simp [hz]
        rw [← hbv]
        clear hall hbv
        go_enter Tryd.func62, Tryd.ntmps62
        go_wp2_with fail
        refine (hF _ hbx.below).mono ?_
        rw [he]
        rintro e w1 ⟨rfl, hb1⟩
        have hx1 := hbx.mono hb1
        have h1 := h.mono hx1.below
        have d0 : w1.cell? ⟨w.heap.size, 0, none⟩ = some (.int .u32 (p : Int)) := hx1.cell' 0 0 _ _ rfl rfl
        have d1 : w1.cell? ⟨w.heap.size, 1, none⟩ = some (.slice (some ⟨b, off, none⟩) n cap) := hx1.cell' 0 1 _ _ rfl rfl
        have c1 : w1.cell? ⟨b, off + (n - 1), none⟩ = some (.int .u32 (nth l (n - 1) : Nat)) := (hx1.below.cell (p := ⟨b, off + (n - 1), none⟩) (cell_lt hcn)).trans hcn
        go_wp2_with fail
        refine (ContainsFunc0 p w.heap.size (some ⟨b, off, none⟩) n cap l _ d0 h1 hn false (Or.inl ⟨rfl, HA.out⟩)).mono ?_
        rintro e w' ⟨rfl, rfl⟩
        go_wp2
        go_ret
        exact ⟨by rw [← hz]; rfl, hx1.below⟩
    · have HB : Hid (rightB p l = false) := by
        show rightB p l = false
        cases hr : rightB p l with
        | false => rfl
        | true => exact absurd ((canon_iff hl hpp).1 (rightB_true.1 hr).1).1 hall
      have hex : ∃ j, j < n ∧ p ≤ nth l j := by
        rcases least (fun i => nth l i < p) n with h2 | ⟨j, h2, h3, _⟩
        · exact absurd h2 hall
        · exact ⟨j, h2, by omega⟩
      have HX := Alg.hid hex
      clear hall hex
      go_enter Tryd.func62, Tryd.ntmps62
      go_wp2_with fail
      refine (hF _ hbx.below).mono ?_
      rw [he]
      rintro e w1 ⟨rfl, hb1⟩
      have hx1 := hbx.mono hb1
      have h1 := h.mono hx1.below
      have d0 : w1.cell? ⟨w.heap.size, 0, none⟩ = some (.int .u32 (p : Int)) := hx1.cell' 0 0 _ _ rfl rfl
      have d1 : w1.cell? ⟨w.heap.size, 1, none⟩ = some (.slice a n cap) := hx1.cell' 0 1 _ _ rfl rfl
      go_wp2_with fail
      refine (ContainsFunc0 p w.heap.size a n cap l _ d0 h1 hn true (Or.inr ⟨rfl, HX.out⟩)).mono ?_
      rintro e w' ⟨rfl, rfl⟩
      go_wp2
      go_ret
      exact ⟨by rw [HB.out]; rfl, hx1.below⟩
  · have he := errP_no hP
    have HB : Hid (rightB p l = false) := by
      show rightB p l = false
      cases hr : rightB p l with
      | false => rfl
      | true => exact absurd (rightB_true.1 hr).2 hP
    go_enter Tryd.func62, Tryd.ntmps62
    go_wp2_with fail
    refine (hF _ hbx.below).mono ?_
    rw [he]
    rintro e w1 ⟨rfl, hb1⟩
    have hx1 := hbx.mono hb1
    go_wp2
    go_ret
    exact ⟨by rw [HB.out]; rfl, hx1.below⟩
end Go.Proofs.YtbnjmeeaaieicaaDoor
end
