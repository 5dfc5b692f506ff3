/- Contracts of the reference's Fair, Pair, Same. -/
import Derived.Test.YtcefhnmhcapccaaDoorW10
open Alg
namespace Alg
theorem fairB_big {p : Nat} {l : List Nat} {m : Nat} (h : ¬ l.length ≤ m + 1) : fairB p l m = false := by simp [fairB, h]
theorem fairB_small {p : Nat} {l : List Nat} {m : Nat} (h : l.length ≤ m + 1) : fairB p l m = rightB p l := by simp [fairB, h]
theorem pairB_ne {p q : Nat} {l l' : List Nat} {m : Nat} (h : p ≠ q) : pairB p l q l' m = false := by simp [pairB, h]
theorem pairB_no {p : Nat} {l l' : List Nat} {m : Nat} (h : fairB p l m = false) : pairB p l p l' m = false := by simp [pairB, h]
theorem pairB_yes {p : Nat} {l l' : List Nat} {m : Nat} (h : fairB p l m = true) : pairB p l p l' m = fairB p l' m := by simp [pairB, h]
theorem sameB_ne {p q : Nat} {l l' : List Nat} (h : p ≠ q) : sameB p l q l' = false := by simp [sameB, h]
theorem sameB_len {p q : Nat} {l l' : List Nat} (h : l.length ≠ l'.length) : sameB p l q l' = false := by
  unfold sameB; simp only [decide_eq_false_iff_not]; rintro ⟨_, rfl⟩; exact h rfl
theorem sameB_at {p q : Nat} {l l' : List Nat} (j : Nat) (h : nth l j ≠ nth l' j) : sameB p l q l' = false := by
  unfold sameB; simp only [decide_eq_false_iff_not]; rintro ⟨_, rfl⟩; exact h rfl
theorem sameB_all {p : Nat} {l l' : List Nat} {n : Nat} (h1 : l.length = n) (h2 : l'.length = n) (h : ∀ i, i < n → nth l i = nth l' i) : sameB p l p l' = true := by
  have : l = l' := by
    refine List.ext_getElem (by omega) (fun i hi hj => ?_)
    have := h i (by omega)
    rwa [nth, nth, List.getD_eq_getElem?_getD, List.getD_eq_getElem?_getD, List.getElem?_eq_getElem hi, List.getElem?_eq_getElem hj] at this
  simp [sameB, this]
theorem sameB_true {p q : Nat} {l l' : List Nat} : sameB p l q l' = true ↔ p = q ∧ l = l' := by simp [sameB]
end Alg
namespace Go.Proofs.YtcefhnmhcapccaaDoor
open Go.RowKit
theorem ref_Fair (p : Nat) (a : Option Addr) (n cap : Nat) (l : List Nat) (m : Nat) (w : World) (h : Sl w a n cap l) (hp : p < 4294967296) (hm : m ≤ 1000000) :
    Calls Tryd.prog 49 #[.agg #[.int .u32 p, .slice a n cap], .int .i64 m] w fun e w' => e = .returned (.bool (fairB p l m)) ∧ Below w.heap.size w w' := by
  have hsl := h.len
  have hbx := boxes1 w #[.int .u32 (p : Int), .slice a n cap] 25
  have hb0 := hbx.below
  have h1 := h.mono hb0
  have hs1 := hb0.size
  by_cases hs : n ≤ m + 1
  · have hn : n ≤ 1099511627776 := by omega
    have HB : Hid (fairB p l m = rightB p l) := fairB_small (by omega)
    clear hsl
    go_enter Tryd.func49, Tryd.ntmps49
    go_wp2_with fail
    refine (ref_Right p a n cap l _ h1 hp hn).mono ?_
    rintro e w' ⟨rfl, hb2⟩
    go_wp2
    go_ret
    exact ⟨by rw [HB.out]; rfl, hb0.trans (hb2.mono hs1)⟩
  · have HB : Hid (fairB p l m = false) := fairB_big (by omega)
    clear hsl
    go_enter Tryd.func49, Tryd.ntmps49
    go_wp2
    go_ret
    exact ⟨by rw [HB.out]; rfl, hb0⟩
theorem ref_Pair (p : Nat) (a : Option Addr) (n cap : Nat) (l : List Nat) (q : Nat) (a' : Option Addr) (n' cap' : Nat) (l' : List Nat) (m : Nat) (w : World) (h : Sl w a n cap l) (h' : Sl w a' n' cap' l') (hp : p < 4294967296) (hq : q < 4294967296) (hm : m ≤ 1000000) :
    Calls Tryd.prog 13 #[.agg #[.int .u32 p, .slice a n cap], .agg #[.int .u32 q, .slice a' n' cap'], .int .i64 m] w fun e w' => e = .returned (.bool (pairB p l q l' m)) ∧ Below w.heap.size w w' := by
  have hbx := boxes2 w #[.int .u32 (p : Int), .slice a n cap] #[.int .u32 (q : Int), .slice a' n' cap'] 25 25
  have hb0 := hbx.below
  have hs1 := hb0.size
  have h1 := h.mono hb0
  have h1' := h'.mono hb0
  by_cases e : p = q
  · subst e
    cases hf : fairB p l m with
    | false =>
      have HB : Hid (pairB p l p l' m = false) := pairB_no hf
      go_enter Tryd.func13, Tryd.ntmps13
      go_wp2_with fail
      refine (ref_Fair p a n cap l m _ h1 hp hm).mono ?_
      rw [hf]
      rintro e w' ⟨rfl, hb2⟩
      go_wp2
      go_ret
      exact ⟨by rw [HB.out]; rfl, hb0.trans (hb2.mono hs1)⟩
    | true =>
      have HB : Hid (pairB p l p l' m = fairB p l' m) := pairB_yes hf
      go_enter Tryd.func13, Tryd.ntmps13
      go_wp2_with fail
      refine (ref_Fair p a n cap l m _ h1 hp hm).mono ?_
      rw [hf]
      rintro e w' ⟨rfl, hb2⟩
      have hb3 := hb0.trans (hb2.mono hs1)
      have hbx2 := hbx.mono hb2
      have d0 : w'.cell? ⟨w.heap.size + 1, 0, none⟩ = some (.int .u32 (p : Int)) := hbx2.cell' 1 0 _ _ rfl rfl
      have d1 : w'.cell? ⟨w.heap.size + 1, 1, none⟩ = some (.slice a' n' cap') := hbx2.cell' 1 1 _ _ rfl rfl
      have h2' := h1'.mono hb2
      go_wp2_with fail
      refine (ref_Fair p a' n' cap' l' m _ h2' hq hm).mono ?_
      rintro e w' ⟨rfl, hb4⟩
      go_wp2
      go_ret
      exact ⟨by rw [HB.out]; rfl, hb3.trans (hb4.mono hbx2.below.size)⟩
  · have HB : Hid (pairB p l q l' m = false) := pairB_ne e
    have e' : ((p : Int) == (q : Int)) = false := by simp; omega
    clear e
    go_enter Tryd.func13, Tryd.ntmps13
    go_wp2
    go_ret
    exact ⟨by rw [HB.out]; rfl, hb0⟩
end Go.Proofs.YtcefhnmhcapccaaDoor
