/- The table of math/bits, out of a row's condition. -/
import Derived.Test.YtbnjmeeaaieicaaDoorW42
import Derived.Test.YtbnjmeeaaieicaaDoorRows
import Derived.Lib.LaidTab
import Derived.MakeChecks
open Alg Go Go.RowKit
namespace Go.Proofs.YtbnjmeeaaieicaaDoor
theorem tab_of_laid {W : World} (h : laidMetH Tryd.prog [("math/bits.deBruijn64tab", Rows.laid_math_bits_deBruijn64tab)] W) : Tab W := by
  rw [MakeChecks.laidMetH_plain _ _ _ (by kernel_rfl)] at h
  have h2 : laidMet Tryd.prog (("math/bits.deBruijn64tab", Lib.tabData .u8 (Lib.deBruijn64tab.map fun n : Nat => (n : Int))) :: []) W := h
  have h3 := Lib.tabIs_of_head (g := 1) (t := 122) (e := 5) (n := 64) (by kernel_rfl) (by kernel_rfl) (by kernel_rfl) (by kernel_rfl) (by kernel_rfl) (by kernel_rfl) h2
  intro j hj
  have h4 := h3.cell (g := 1) (by kernel_rfl) j (by rw [List.length_map]; exact hj)
  rw [h4]
  congr 2
  rw [List.getD_eq_getElem?_getD, List.getD_eq_getElem?_getD, List.getElem?_map, List.getElem?_eq_getElem hj]
  rfl
end Go.Proofs.YtbnjmeeaaieicaaDoor
