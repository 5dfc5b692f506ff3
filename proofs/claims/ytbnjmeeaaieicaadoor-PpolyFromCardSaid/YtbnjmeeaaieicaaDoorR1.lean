/- The row of PpolyDivides: the frame; what stands in the arguments is opened, the walk is taken, the arguments read as they did. -/
import Derived.Test.YtbnjmeeaaieicaaDoorRows
import Derived.Test.YtbnjmeeaaieicaaDoorE2
import Derived.WalkKit
import Derived.ProofKit
import Derived.OpenShut
import Derived.ShutString
import Derived.ChangeOld
import Derived.Below
import Derived.Carry
import Derived.LaidMore
import Derived.ChangeSlices
import Derived.Lib.SmallJoins
open Alg
namespace Go.Proofs.YtbnjmeeaaieicaaDoor
open Go.ChangeShapes Go.WideShapes Go.ChangeAt Go.WideMaps Go.WideElems Go.RowKit
set_option linter.unusedVariables false
set_option maxRecDepth 100000
theorem own : ownKnob Tryd.prog.godebug = none := by kernel_rfl
theorem laidOut : laidOutB Tryd.prog = true := by kernel_rfl
theorem cellsP : Tryd.prog.cellsOf 47 = 2 := by kernel_rfl
/-- a slice of uint32 that came in -/
theorem sl_of {W : World} {a : Addr} {len cap : Nat} {zs : List Int} (hl : len ≤ cap) (hm : cap ≤ maxLen) (hz : zs.length = cap) (hc : ∀ i, i < zs.length → W.cell? (a.add i) = some (.int .u32 (zs.getD i 0))) (hw : ∀ n ∈ zs, (Lit.int .u32 n).wf = true) :
    Sl W (some a) len cap ((zs.take len).map Int.toNat) := by
  have hb : ∀ i, 0 ≤ zs.getD i 0 ∧ zs.getD i 0 ≤ 4294967295 := fun i => by
    have := range_u32 hw i
    rwa [List.getD_eq_getElem?_getD]
  have hn : ∀ i, i < len → nth ((zs.take len).map Int.toNat) i = (zs.getD i 0).toNat := fun i hi => by
    unfold nth
    rw [List.getD_eq_getElem?_getD, List.getElem?_map, List.getElem?_take, if_pos hi, List.getD_eq_getElem?_getD]
    cases h : zs[i]? with
    | none => rfl
    | some z => rfl
  refine ⟨by simp; omega, hl, by unfold maxLen at hm; omega, fun i => ?_, ?_⟩
  · by_cases h : i < len
    · rw [hn i h]; have := hb i; omega
    · rw [nth, List.getD_eq_getElem?_getD, List.getElem?_eq_none (by simp; omega)]; decide
  · by_cases h0 : len = 0
    · exact Or.inl h0
    · right
      have h1 := hc 0 (by omega)
      have hs : a.spot = none := by
        have := World.cell?_spot h1
        simpa [Addr.add] using this
      obtain ⟨b, o, sp⟩ := a
      simp only at hs
      subst hs
      refine ⟨b, o, rfl, fun i hi => ?_⟩
      have h2 := hc i (by omega)
      have e : (⟨b, o, none⟩ : Addr).add i = ⟨b, o + i, none⟩ := by
        unfold Addr.add; split
        · rename_i h0; subst h0; rfl
        · rfl
      rw [e] at h2
      rw [h2, hn i hi, Int.toNat_of_nonneg (hb i).1]
/-- a polynomial that came in -/
theorem open_pp {H : Type} {enc : TypeId × Value → H} {W : World} {base : Nat} {v : Value} {d : DataW H} {ps : List MemPlace} (hval : Value.okWide Tryd.prog W .any base 47 v) (h : DataW.Trod enc Tryd.prog W 0 (fun _ => true) true 47 v d ps) :
    ∃ (p : Nat) (a : Option Addr) (n cap : Nat) (l : List Nat), v = .agg #[.int .u32 (p : Int), .slice a n cap] ∧ p < 4294967296 ∧ Sl W a n cap l := by
  obtain ⟨c0, c1, y0, y1, m, rfl, rfl, rfl, h0, h1⟩ := Joins.open_agg2 Tryd.underlying47 (by kernel_rfl) cellsP hval h
  obtain ⟨k, e0, _, hk⟩ := DataW.trod_int Tryd.underlying22 h0
  have e0' : c0 = .int .u32 k := by simpa using e0
  subst e0'
  have hkb := bounds_u32 hk
  have ek : ((k.toNat : Nat) : Int) = k := Int.toNat_of_nonneg hkb.1
  rcases open_ints Tryd.underlying23 Tryd.underlying22 (by kernel_rfl) h1 with ⟨hcs, _⟩ | ⟨x, l, c, zs, hcs, _, hl, hm, hz, _, hcell, hwz⟩
  · have e1 : c1 = .slice none 0 0 := by simpa using hcs
    subst e1
    exact ⟨k.toNat, none, 0, 0, [], by rw [ek], by omega, Sl.of_nil _ _ _ (by omega)⟩
  · have e1 : c1 = .slice (some x) l c := by simpa using hcs
    subst e1
    exact ⟨k.toNat, some x, l, c, _, by rw [ek], by omega, sl_of hl hm (by simpa using hz) hcell hwz⟩
end Go.Proofs.YtbnjmeeaaieicaaDoor
