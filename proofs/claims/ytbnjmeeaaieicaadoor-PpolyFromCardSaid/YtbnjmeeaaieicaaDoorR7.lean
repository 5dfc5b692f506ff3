/- Whole numbers that came in. -/
import Derived.Test.YtbnjmeeaaieicaaDoorR1
open Alg
namespace Go.Proofs.YtbnjmeeaaieicaaDoor
open Go.ChangeShapes Go.WideShapes Go.ChangeAt Go.WideMaps Go.WideElems Go.RowKit
set_option linter.unusedVariables false
set_option maxRecDepth 100000
theorem cellsI : Tryd.prog.cellsOf 25 = 2 := by kernel_rfl
theorem open_ai {H : Type} {enc : TypeId × Value → H} {W : World} {base : Nat} {v : Value} {d : DataW H} {ps : List MemPlace} (hval : Value.okWide Tryd.prog W .any base 25 v) (h : DataW.Trod enc Tryd.prog W 0 (fun _ => true) true 25 v d ps) :
    ∃ (neg : Bool) (a : Option Addr) (n cap : Nat) (l : List Nat), v = .agg #[.bool neg, .slice a n cap] ∧ Sl W a n cap l := by
  obtain ⟨c0, c1, y0, y1, m, rfl, rfl, rfl, h0, h1⟩ := Joins.open_agg2 Tryd.underlying25 (by kernel_rfl) cellsI hval h
  obtain ⟨b, e0, _⟩ := DataW.trod_bool Tryd.underlying4 h0
  have e0' : c0 = .bool b := by simpa using e0
  subst e0'
  rcases open_ints Tryd.underlying23 Tryd.underlying22 (by kernel_rfl) h1 with ⟨hcs, _⟩ | ⟨x, l, c, zs, hcs, _, hl, hm, hz, _, hcell, hwz⟩
  · have e1 : c1 = .slice none 0 0 := by simpa using hcs
    subst e1
    exact ⟨b, none, 0, 0, [], rfl, Sl.of_nil _ _ _ (by omega)⟩
  · have e1 : c1 = .slice (some x) l c := by simpa using hcs
    subst e1
    exact ⟨b, some x, l, c, _, rfl, sl_of hl hm (by simpa using hz) hcell hwz⟩
end Go.Proofs.YtbnjmeeaaieicaaDoor
