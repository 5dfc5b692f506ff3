/- Numbers and arrays of numbers that came in; both tables of math/bits, out of a row's condition. -/
import Derived.Test.YtbnjmeeaaieicaaDoorR1
import Derived.Test.YtbnjmeeaaieicaaDoorV1
import Derived.Lib.LaidTab
import Derived.LaidSub
import Derived.MakeChecks
open Alg Go Go.RowKit
namespace Alg
theorem open_ints_arr {H : Type} {enc : TypeId × Value → H} {P : Program} {W : World} {base : Nat} {sp : Nat → Bool} {held : Bool} {r : Reach} {b0 : Nat} {t e : TypeId} {n : Nat} {q : IntKind} {v : Value} {d : DataW H} {ps : List MemPlace}
    (ht : P.underlying t = some (.array n e)) (he : P.underlying e = some (.int q)) (hce : P.cellsOf e = 1) (hct : P.cellsOf t = n) (hval : Value.okWide P W r b0 t v) (h : DataW.Trod enc P W base sp held t v d ps) :
    ∃ cs : Array Value, v = .agg cs ∧ cs.size = n ∧ ∀ i, i < n → ∃ z : Int, cs[i]? = some (.int q z) ∧ (Lit.int q z).wf = true := by
  simp only [Value.okWide, ht] at hval
  obtain ⟨cs, rfl, hsz, _⟩ := hval
  refine ⟨cs, rfl, by rw [hsz, hct], fun i hi => ?_⟩
  obtain ⟨fuel, hf⟩ := h
  cases fuel with
  | zero => simp [DataW.trod] at hf
  | succ fuel =>
    simp only [DataW.trod, ht, hce, hct, Nat.mul_one] at hf
    split at hf
    · obtain ⟨xs, hm, _⟩ := Option.map_eq_some_iff.1 hf
      obtain ⟨b, _, hfi⟩ := Lib.mapM_at hm i i (by simp [hi])
      obtain ⟨z, hc, _, hw⟩ := DataW.trod_int he hfi
      refine ⟨z, ?_, hw⟩
      have := congrArg (·[0]?) hc
      simpa [List.getElem?_take, List.getElem?_drop, Value.cells] using this
    · cases hf
end Alg
namespace Go.Proofs.YtbnjmeeaaieicaaDoor
open Go.ChangeShapes Go.WideShapes Go.ChangeAt Go.WideMaps Go.WideElems Go.RowKit
set_option linter.unusedVariables false
set_option maxRecDepth 100000
theorem open_u32 {H : Type} {enc : TypeId × Value → H} {W : World} {base : Nat} {v : Value} {d : DataW H} {ps : List MemPlace} (hval : Value.okWide Tryd.prog W .any base 22 v) (h : DataW.Trod enc Tryd.prog W 0 (fun _ => true) true 22 v d ps) :
    ∃ n : Nat, v = .int .u32 (n : Int) ∧ n < 4294967296 := by
  obtain ⟨x, rfl, _, _, wx⟩ := open_int Tryd.underlying22 hval h
  have hb := bounds_u32 wx
  exact ⟨x.toNat, by rw [Int.toNat_of_nonneg hb.1], by omega⟩
theorem open_a2 {H : Type} {enc : TypeId × Value → H} {W : World} {base : Nat} {v : Value} {d : DataW H} {ps : List MemPlace} (hval : Value.okWide Tryd.prog W .any base 36 v) (h : DataW.Trod enc Tryd.prog W 0 (fun _ => true) true 36 v d ps) :
    ∃ n m : Nat, v = .agg #[.int .u64 (n : Int), .int .u64 (m : Int)] ∧ n < 18446744073709551616 ∧ m < 18446744073709551616 := by
  obtain ⟨cs, rfl, hsz, hc⟩ := open_ints_arr Tryd.underlying36 Tryd.underlying35 (by kernel_rfl) (by kernel_rfl) hval h
  obtain ⟨z0, e0, w0⟩ := hc 0 (by decide)
  obtain ⟨z1, e1, w1⟩ := hc 1 (by decide)
  have h0 := bounds_u64 w0
  have h1 := bounds_u64 w1
  refine ⟨z0.toNat, z1.toNat, ?_, by omega, by omega⟩
  rw [Int.toNat_of_nonneg h0.1, Int.toNat_of_nonneg h1.1]
  congr 1
  apply Array.ext_getElem?
  intro i
  match i with
  | 0 => rw [e0]; rfl
  | 1 => rw [e1]; rfl
  | i + 2 => rw [Array.getElem?_eq_none (by omega)]; rfl
theorem open_a3 {H : Type} {enc : TypeId × Value → H} {W : World} {base : Nat} {v : Value} {d : DataW H} {ps : List MemPlace} (hval : Value.okWide Tryd.prog W .any base 44 v) (h : DataW.Trod enc Tryd.prog W 0 (fun _ => true) true 44 v d ps) :
    ∃ a b c : Nat, v = .agg #[.int .u32 (a : Int), .int .u32 (b : Int), .int .u32 (c : Int)] ∧ a < 4294967296 ∧ b < 4294967296 ∧ c < 4294967296 := by
  obtain ⟨cs, rfl, hsz, hc⟩ := open_ints_arr Tryd.underlying44 Tryd.underlying22 (by kernel_rfl) (by kernel_rfl) hval h
  obtain ⟨z0, e0, w0⟩ := hc 0 (by decide)
  obtain ⟨z1, e1, w1⟩ := hc 1 (by decide)
  obtain ⟨z2, e2, w2⟩ := hc 2 (by decide)
  have h0 := bounds_u32 w0
  have h1 := bounds_u32 w1
  have h2 := bounds_u32 w2
  refine ⟨z0.toNat, z1.toNat, z2.toNat, ?_, by omega, by omega, by omega⟩
  rw [Int.toNat_of_nonneg h0.1, Int.toNat_of_nonneg h1.1, Int.toNat_of_nonneg h2.1]
  congr 1
  apply Array.ext_getElem?
  intro i
  match i with
  | 0 => rw [e0]; rfl
  | 1 => rw [e1]; rfl
  | 2 => rw [e2]; rfl
  | i + 3 => rw [Array.getElem?_eq_none (by omega)]; rfl
theorem tabs_of_laid {W : World} (h : laidMetH Tryd.prog [("math/bits.deBruijn32tab", Rows.laid_math_bits_deBruijn32tab), ("math/bits.deBruijn64tab", Rows.laid_math_bits_deBruijn64tab)] W) : Tab W ∧ Tab32 W := by
  rw [MakeChecks.laidMetH_plain _ _ _ (by kernel_rfl)] at h
  have hf := h.filter (fun x => decide (x.1 = "math/bits.deBruijn64tab"))
  have h2 : laidMet Tryd.prog (("math/bits.deBruijn64tab", Lib.tabData .u8 (Lib.deBruijn64tab.map fun n : Nat => (n : Int))) :: []) W := hf
  have h3 := Lib.tabIs_of_head (g := 1) (t := 122) (e := 5) (n := 64) (by kernel_rfl) (by kernel_rfl) (by kernel_rfl) (by kernel_rfl) (by kernel_rfl) (by kernel_rfl) h2
  have k2 : laidMet Tryd.prog (("math/bits.deBruijn32tab", Lib.tabData .u8 (Lib.deBruijn32tab.map fun n : Nat => (n : Int))) :: [("math/bits.deBruijn64tab", Rows.laid_math_bits_deBruijn64tab)]) W := h
  have k3 := Lib.tabIs_of_head (g := 0) (t := 117) (e := 5) (n := 32) (by kernel_rfl) (by kernel_rfl) (by kernel_rfl) (by kernel_rfl) (by kernel_rfl) (by kernel_rfl) k2
  constructor
  · intro j hj
    have h4 := h3.cell (g := 1) (by kernel_rfl) j (by rw [List.length_map]; exact hj)
    rw [h4]
    congr 2
    rw [List.getD_eq_getElem?_getD, List.getD_eq_getElem?_getD, List.getElem?_map, List.getElem?_eq_getElem hj]
    rfl
  · intro j hj
    have h4 := k3.cell (g := 0) (by kernel_rfl) j (by rw [List.length_map]; exact hj)
    rw [h4]
    congr 2
    rw [List.getD_eq_getElem?_getD, List.getD_eq_getElem?_getD, List.getElem?_map, List.getElem?_eq_getElem hj]
    rfl
end Go.Proofs.YtbnjmeeaaieicaaDoor
